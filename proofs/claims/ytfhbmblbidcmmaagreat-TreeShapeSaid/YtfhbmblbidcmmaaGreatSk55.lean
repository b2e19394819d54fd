/-
  Of all roots that are made the pages are a tree in the form of the document, and just these are told, and each is in use. No condition. (part 55)
-/
import Derived.Test.YtfhbmblbidcmmaaGreatSk44
import Derived.Test.YtfhbmblbidcmmaaGreatSk50
import Derived.Test.YtfhbmblbidcmmaaGreatSk54
import Derived.Test.YtfhbmblbidcmmaaGreatSk46
set_option linter.unusedSimpArgs false
set_option linter.unusedVariables false
namespace Go.Proofs.YtfhbmblbidcmmaaGreat
set_option linter.unusedSimpArgs false
set_option linter.unusedVariables false
open Go.RowKit Go.Sl Go.Dk Go.Tr
attribute [local go_sem ↓] Go.wp_at_zero Go.wp_at_succ
attribute [local go_sem] Go.Sl.cell_sat Go.Sl.frozen_sat
variable [TopN]
theorem keep12 {A R1 R2 R3 R4 R5 R6 R7 R8 R9 R10 R11 R12 : Assn} {w : World} [h : SatI A w] (X1 X2 X3 X4 X5 X6 X7 X8 X9 X10 X11 X12 : Assn) [t1 : Take A X1 R1] [t2 : Take R1 X2 R2] [t3 : Take R2 X3 R3] [t4 : Take R3 X4 R4] [t5 : Take R4 X5 R5] [t6 : Take R5 X6 R6] [t7 : Take R6 X7 R7] [t8 : Take R7 X8 R8] [t9 : Take R8 X9 R9] [t10 : Take R9 X10 R10] [t11 : Take R10 X11 R11] [t12 : Take R11 X12 R12] : Sat (X1 * (X2 * (X3 * (X4 * (X5 * (X6 * (X7 * (X8 * (X9 * (X10 * (X11 * X12))))))))))) w := Sat.weak (B := R12) ((h.out.take3 X1 X2 X3).eq (by rw [t4.out, t5.out, t6.out, t7.out, t8.out, t9.out, t10.out, t11.out, t12.out]; ac_rfl))
theorem count_snoc {l : List Int} {i : Nat} {z : Int} (h : l[i]? = some z) (y : Int) : (l.take (i + 1)).count y = (l.take i).count y + if z = y then 1 else 0 := by
 rw [List.take_add_one, h, List.count_append]
 simp [List.count_singleton]
theorem pairwise_at {l : List Int} (h : l.Pairwise (· < ·)) {i j : Nat} {x y : Int} (hx : l[i]? = some x) (hy : l[j]? = some y) (hij : i < j) : x < y := by
 obtain ⟨h1, h2⟩ := List.getElem?_eq_some_iff.1 hx
 obtain ⟨h3, h4⟩ := List.getElem?_eq_some_iff.1 hy
 rw [← h2, ← h4]
 exact List.pairwise_iff_getElem.1 h i j h1 h3 hij
theorem tPages_tree {V : Int → Option Nd} (hV : ∀ p n, V p = some n → may n = true ∧ 1 ≤ p ∧ p < 1048576) {m : Nat} {s : TS} (hR : Rdy V (m + 1037) s) {r : Int} (hok : (rTree V r).ok = true) :
 ∃ l' s', tPages tRead r s = .ok l' s' ∧ Rdy V m s' ∧ s'.sp = s.sp ∧ s'.ck.d = s.ck.d ∧ ∀ x, x ∈ l' ↔ x ∈ (rTree V r).pages := by
 by_cases h0 : r = 0
 · subst h0
   refine ⟨[], s, rfl, hR.less (by omega), rfl, rfl, fun x => ?_⟩
   unfold rTree
   rw [if_pos rfl]
 · obtain ⟨hh, h1, h2, h3⟩ := tree_pt (fun p n h => (hV p n h).1) h0 hok
   obtain ⟨l', s', e, o⟩ := pagesTo_pt (fun p n h => (hV p n h).2) 21 hh r (rTree V r).pages [] m s (by omega) h2 (hR.less (by omega)) (Whl.nil _) (by simp; omega)
   refine ⟨l', s', by unfold tPages; rw [if_neg h0]; exact e, o.rdy, o.sp, o.dk, fun x => ⟨fun h => ?_, o.all x⟩⟩
   rcases o.just x h with h | h
   · cases h
   · exact h
structure ShapeOk (V : Int → Option Nd) (used : List Int) (r : Int) (l : List Ent) : Prop where
 ok : (rTree V r).ok = true
 ents : (rTree V r).ents = l
 used : ∀ p ∈ (rTree V r).pages, p ∈ used
theorem shape_ok {V : Int → Option Nd} {s : TS} (hv : Le (nodeAt s) V) {r : Int} {l : List Ent} (hr : Rt (nodeAt s) r l) (hg : GoodL l) : ShapeOk V s.sp.used r l := by
 obtain ⟨h1, h2, h3⟩ := rt_tree hv hr hg.2
 refine ⟨h1, h2, fun p hp => ?_⟩
 obtain ⟨n, hn⟩ := Option.isSome_iff_exists.1 (h3 p hp)
 exact (nodeAt_iff.1 hn).1
theorem nums_ok {ns l xp : List Int} (hs : ns.Pairwise (· < ·)) (h1 : ∀ x, x ∈ ns ↔ x ∈ l) (h2 : ∀ x, x ∈ l ↔ x ∈ xp) : ns.length ≤ xp.length ∧ (0 < xp.length → 0 < ns.length) := by
 refine ⟨List.Nodup.length_le_of_subset (hs.imp fun h => by omega) fun x hx => (h2 x).1 ((h1 x).1 hx), fun h => ?_⟩
 obtain ⟨x, hx⟩ := List.exists_mem_of_length_pos h
 exact List.length_pos_of_mem ((h1 x).2 ((h2 x).2 hx))
end Go.Proofs.YtfhbmblbidcmmaaGreat
namespace Go.Proofs.YtfhbmblbidcmmaaGreat
set_option linter.unusedSimpArgs false
set_option linter.unusedVariables false
open Go.RowKit Go.Sl Go.Dk Go.Tr
attribute [local go_sem ↓] Go.wp_at_zero Go.wp_at_succ
attribute [local go_sem] Go.Sl.cell_sat Go.Sl.frozen_sat
instance topS : TopN := ⟨120000, by omega⟩
theorem topS_is : TOP = 120000 := rfl
structure PlayK (s : TS) (ms : List (Int × List Ent)) (vs : List Value) (G : Assn) (i : Nat) : Prop where
 pl : Played s ms vs G
 inv : TInv true s
 pos : 0 < ms.length
 len : ms.length ≤ i + 1
 ops : 50000000 + (20 - i) * 5600 ≤ leftOps s
 room : 20000 + (20 - i) * 2600 ≤ roomOf s.sp
 nm : s.ck.nm = nmS
 cap : s.ck.cap ≤ 1000
set_option maxRecDepth 100000 in
set_option maxHeartbeats 6400000 in
theorem treeShape_walk (va : Value) (cs : List CallT) (w : World) (hv : Rws w va 5 (cs.map crowT)) (hl : cs.length ≤ 9223372036854775807) (hcs : ∀ c ∈ cs, ReadsE (old w) (.slice c.a c.put.length c.c) c.put ∧ c.put.length ≤ 9223372036854775807) :
 Calls Tryz.prog 8 #[va] w fun e w' => e = .returned (.bool true) ∧ Below w.heap.size w w' := by
 obtain ⟨va, vc, hvv⟩ := hv.len
 rw [List.length_map] at hvv
 subst hvv
 have HCS : Aside (∀ c ∈ cs, ReadsE (old w) (.slice c.a c.put.length c.c) c.put ∧ c.put.length ≤ 9223372036854775807) := hcs
 have HV : Aside (Rws w (.slice va cs.length vc) 5 (cs.map crowT)) := hv
 clear hcs hv
 go_enter Tryz.func8, Tryz.ntmps8
 go_wp2_with fail
 with_reducible refine Calls.mono (set_any 1073741824 9 (old w) w (Sat.old_self w) (by omega) (by omega) (by omega) (by omega)) ?_
 rintro e w1 ⟨b, h, rfl, q1⟩
 have hI0 := ts0_inv 1073741824 9 (by omega) (by omega) (by omega) (by omega) true (fun _ => by omega)
 have hroom0 := ts0_room 1073741824 9
 have hnm0 : (ts0 1073741824 9).ck.nm = nmS := rfl
 have hcp0 : (ts0 1073741824 9).ck.cap ≤ 1000 := by show (9 : Int) ≤ 1000; omega
 have htop := topS_is
 obtain ⟨s0, hs0⟩ : ∃ s, ts0 1073741824 9 = s := ⟨_, rfl⟩
 have hl0 : leftOps s0 = 67108850 := by rw [← hs0]; exact ts0_left _ _
 rw [hs0] at q1 hI0 hroom0 hnm0 hcp0
 have HS0 : Aside (PlayK s0 [(0, [])] [.slice none 0 0] 1 0) := ⟨played_zero s0 0, hI0, by simp, by simp, by omega, by omega, hnm0, hcp0⟩
 haveI := q1.i
 clear hs0 hI0 hroom0 hl0 hnm0 hcp0 htop
 go_wp2_with fail
 with_reducible refine Calls.mono (awake_any _ _ q1) ?_
 rintro e w2 ⟨rfl, q2⟩
 haveI := q2.i
 clear q1
 obtain ⟨N, hN⟩ : ∃ N, w2.heap.size = N := ⟨_, rfl⟩
 go_wp2_with fail
 have q3 : Sat (Sl.block (N + 1) TLe [.slice none 0 0] * (Sl.block N TIn [.int .i64 0] * (Sl.block (N + 2) TMd [.slice (some ⟨N, 0, none⟩) 1 1, .slice (some ⟨N + 1, 0, none⟩) 1 1] * (treeP h s0 * (Sl.block b TBe [.pointer (some ⟨h.D, 0, none⟩), .pointer (some ⟨h.C, 0, none⟩), .pointer (some ⟨h.S, 0, none⟩), .pointer (some ⟨h.t, 0, none⟩)] * old w))))) (((w2.alloc (.cells #[.int .i64 0] TIn)).alloc (.cells #[.slice none 0 0] TLe)).alloc (.cells #[.slice (some ⟨N, 0, none⟩) 1 1, .slice (some ⟨N + 1, 0, none⟩) 1 1] TMd)) := by
  rw [← hN]
  exact satI_eq (by ac_rfl)
 try rw [hN]
 generalize (((w2.alloc (.cells #[.int .i64 0] TIn)).alloc (.cells #[.slice none 0 0] TLe)).alloc (.cells #[.slice (some ⟨N, 0, none⟩) 1 1, .slice (some ⟨N + 1, 0, none⟩) 1 1] TMd)) = w3 at q3 ⊢
 have q4 := block_rw (s := 1) (n := 1) rfl (by omega) q3
 have q5 := block_rw (s := 1) (n := 1) rfl (by omega) (q4.eq (sep_swap _ _ _))
 have q6 : Sat (treeP h s0 * (1 * (madeA (N + 2) (some ⟨N, 0, none⟩) 1 (some ⟨N + 1, 0, none⟩) 1 1 [.int .i64 0] [.slice none 0 0] * (benchA b h * (old w * 1))))) w3 := by
  rw [one_sep, sep_one]
  unfold madeA benchA
  exact q5.eq (by ac_rfl)
 obtain ⟨mb, hmb⟩ : ∃ m, N + 2 = m := ⟨_, rfl⟩
 rw [hmb] at q6 ⊢
 clear q2 q3 q4 q5 hN hmb this
 go_wp2_with fail
 go_loopg [5] 20 (fun g t5 wr => ∃ (i : Nat) (s : TS) (a1 : Option Addr) (c1 : Nat) (a2 : Option Addr) (c2 : Nat) (ms : List (Int × List Ent)) (vs : List Value) (G : Assn), t5 = .int .i64 i ∧ i ≤ 20 ∧ Aside (g = 20 - i) ∧ Aside (PlayK s ms vs G i) ∧
  Sat (treeP h s * (G * (madeA mb a1 c1 a2 c2 ms.length (rootC ms) vs * (benchA b h * (old w * 1))))) wr)
 case atStart => exact ⟨0, s0, some ⟨N, 0, none⟩, 1, some ⟨N + 1, 0, none⟩, 1, [(0, [])], [.slice none 0 0], 1, rfl, by omega, rfl, HS0, q6⟩
 case round =>
  as_aux_lemma =>
   clear q6 HS0
   obtain ⟨i, s, a1, c1, a2, c2, ms, vs, G, rfl, hi, A, P, hs⟩ := hrel
   by_cases hgo : i < cs.length ∧ i < 20
   · obtain ⟨hil, hi2⟩ := hgo
     have hi3 : (i : Int) < cs.length := by omega
     have hi4 : (i : Int) < 20 := by omega
     obtain ⟨⟨k, f, pos, n, ap, cp, put⟩, hx⟩ : ∃ x, cs[i]? = some x := ⟨cs[i], by simp [hil]⟩
     obtain ⟨rb, ro, e1, hcell⟩ := HV.out.at (show (cs.map crowT)[i]? = some (crowT ⟨k, f, pos, n, ap, cp, put⟩) by simp [hx])
     subst e1
     obtain ⟨hE, hpl⟩ := HCS.out _ (List.mem_of_getElem? hx)
     simp only at hE hpl
     haveI : OldAt w rb (ro + i * 5) (.int .i64 k) := ⟨by have := hcell 0 _ rfl; simpa using this⟩
     haveI : OldAt w rb (ro + i * 5 + 1) (.int .i64 f) := ⟨hcell 1 _ rfl⟩
     haveI : OldAt w rb (ro + i * 5 + 2) (.int .i64 pos) := ⟨hcell 2 _ rfl⟩
     haveI : OldAt w rb (ro + i * 5 + 3) (.int .i64 n) := ⟨hcell 3 _ rfl⟩
     haveI : OldAt w rb (ro + i * 5 + 4) (.slice ap put.length cp) := ⟨hcell 4 _ rfl⟩
     clear hcell hx
     by_cases hp : 60 < put.length
     · have hp' : (60 : Int) < put.length := by omega
       haveI := hs.i
       clear A P hE
       go_wp2
       go_ret
       exact ⟨rfl, below_is⟩
     · have hp' : ¬ (60 : Int) < put.length := by omega
       have hdo := does_any h s mb b a1 c1 a2 c2 ms vs G k f pos n put (.slice ap put.length cp) (old w) 1 wr P.out.pl P.out.pos (by have := P.out.len; omega) P.out.inv (by have := P.out.ops; omega) (by have := P.out.room; omega) hE (by omega) hs
       haveI := hs.i
       have HI : Aside (PlayK s ms vs G i) := P.out
       clear P hE
       go_wp2_with fail
       with_reducible refine Calls.mono hdo ?_
       rintro e w5 ⟨s', a3, c3, a4, c4, ms', vs', G', rfl, q7, hP', hm1, hm2, nx⟩
       clear hdo hs
       have HP' : Aside (PlayK s' ms' vs' G' (i + 1)) := by
        have p := HI.out
        have h1 := p.ops
        have h2 := p.room
        have h3 := p.pos
        have h4 := p.len
        have h5 := nx.left
        have h6 := nx.room
        exact ⟨hP', nx.inv, by omega, by omega, by omega, by omega, nx.cap.nm.trans p.nm, by rw [nx.cap.cap]; exact p.cap⟩
       clear hP' nx
       go_wp2
       go_roundg (20 - (i + 1))
       case measure => have := A.out; omega
       case rel => exact ⟨i + 1, s', a3, c3, a4, c4, ms', vs', G', by go_num, by omega, rfl, HP', q7⟩
   · have hways : (¬ (i : Int) < cs.length) ∨ ((i : Int) < cs.length ∧ ¬ (i : Int) < 20) := by omega
     obtain ⟨nm, hnm⟩ : ∃ m, ms.length = m := ⟨_, rfl⟩
     obtain ⟨rs, hrs⟩ : ∃ x, rootC ms = x := ⟨_, rfl⟩
     have hf := flush_ts P.out.inv (by have := P.out.ops; unfold leftOps opsMax at this; unfold opsMax; omega)
     have hfl := fun F w q => flush_tany h s F w P.out.inv (by have := P.out.ops; unfold leftOps opsMax at this; unfold opsMax; omega) P.out.cap q
     obtain ⟨sf, hsf⟩ : ∃ x, s.flushed = x := ⟨_, rfl⟩
     rw [hsf] at hf hfl
     have hPl : Played sf ms vs G := P.out.pl.same hf.le
     have hfine : Fine sf.ck.d nmS := by have := hf.inv.good.fine; rwa [hf.cap.nm, P.out.nm] at this
     have hread := fun F w q => tread_file h sf F w q hfine
     have hsize := fun F w q => tsize_file h sf nmS F w q (by decide)
     have hmax : max 0 (sf.ck.d.size nmS) = ((fnow sf.ck.d nmS).length : Int) := size_fnow hfine
     have hroomf : 0 < roomOf sf.sp := by rw [hf.sp]; have := P.out.room; omega
     have husd := fun F w q => tused_any h sf F w q hf.inv hroomf
     have hfo : fileOf sf = fnow sf.ck.d nmS := by unfold fileOf; rw [hf.cap.nm, P.out.nm]
     have hrdy := clean_rdy hf.inv hf.clean
     have hle := clean_le hf.inv hf.clean
     have hlf : (fnow sf.ck.d nmS).length ≤ 30720000 := by
      have := hf.inv.good.top.1
      rw [hf.cap.nm, P.out.nm, topS_is] at this
      omega
     rw [hfo] at hrdy hle
     obtain ⟨file, hfile⟩ : ∃ x, fnow sf.ck.d nmS = x := ⟨_, rfl⟩
     rw [hfile] at hread hmax hrdy hle hlf
     obtain ⟨nf, hnf⟩ : ∃ x, file.length = x := ⟨_, rfl⟩
     rw [hnf] at hread hmax hlf
     obtain ⟨z, hz⟩ : ∃ x, sf.ck.d.size nmS = x := ⟨_, rfl⟩
     rw [hz] at hsize hmax
     have HF : Aside (Played sf ms vs G ∧ ms.length = nm ∧ rootC ms = rs ∧ nm ≤ 31 ∧ Rdy (fileNode file) 49000000 sf ∧ Le (nodeAt sf) (fileNode file) ∧ file.length = nf ∧ ∀ p ∈ sf.sp.used, 0 ≤ p) := ⟨hPl, hnm, hrs, by have := P.out.len; omega, hrdy.less (by have := hf.left; have := P.out.ops; omega), hle, hnf, fun p hp => by have h1 := hf.inv.used p hp; have h2 := hf.inv.res; omega⟩
     have HFL : Aside (∀ F w, Sat (treeP h s * F) w → Calls Tryz.prog 36 #[.pointer (some ⟨h.C, 0, none⟩)] w fun e w' => e = .returned (.int .i64 0) ∧ Sat (treeP h sf * F) w') := hfl
     have HRD : Aside (∀ F w, Sat (treeP h sf * F) w → Calls Tryz.prog 49 #[.pointer (some ⟨h.D, 0, none⟩), .string ⟨#[115, 116, 111, 114, 101]⟩, .int .i64 0, .int .i64 nf] w fun e w' => ∃ (a : Option Addr) (c : Nat) (er : Int), e = .returned (.tuple #[.slice a nf c, .int .i64 er]) ∧ Sat (rw TB 1 (.slice a nf c) (bys file) * (treeP h sf * F)) w') := hread
     have HSZ : Aside (∀ F w, Sat (treeP h sf * F) w → Calls Tryz.prog 50 #[.pointer (some ⟨h.D, 0, none⟩), .string ⟨#[115, 116, 111, 114, 101]⟩] w fun e w' => e = .returned (.int .i64 z) ∧ w = w') := hsize
     have HUS : Aside (∀ F w, Sat (treeP h sf * F) w → Calls Tryz.prog 38 #[.pointer (some ⟨h.S, 0, none⟩)] w fun e w' => ∃ rs : List (Int × Int), NormL rs ∧ (∀ x, Cov rs x ↔ x ∈ sf.sp.used) ∧ rs.length ≤ 1048576 ∧ ∃ (a' : Option Addr) (c' : Nat), e = .returned (.slice a' rs.length c') ∧
      Sat (rw TRg 2 (.slice a' rs.length c') (rgs rs) * (treeP h sf * F)) w') := husd
     have hnm0 : 0 < nm := by have := P.out.pos; omega
     have hnm1 : nm ≤ 31 := HF.out.2.2.2.1
     rw [hnm, hrs] at hs
     unfold madeA benchA at hs
     have q0 : Sat (treeP h s * (G * (Sl.block mb TMd [.slice a1 nm c1, .slice a2 nm c2] * (rw TIn 1 (.slice a1 nm c1) rs * (rw TLe 1 (.slice a2 nm c2) vs * (Sl.block b TBe [.pointer (some ⟨h.D, 0, none⟩), .pointer (some ⟨h.C, 0, none⟩), .pointer (some ⟨h.S, 0, none⟩), .pointer (some ⟨h.t, 0, none⟩)] * old w)))))) wr := hs.eq (by rw [sep_one]; ac_rfl)
     obtain ⟨g1, rfl⟩ := row_some (hs := q0.take (rw TIn 1 (.slice a1 nm c1) rs)) (by omega)
     obtain ⟨g2, rfl⟩ := row_some (hs := q0.take (rw TLe 1 (.slice a2 nm c2) vs)) (by omega)
     clear A P hnm hrs hs hgo hf hfl hsf hPl hfine hread hsize hroomf husd hfo hrdy hle hfile hnf hz
     haveI := q0.i
     have HQR : Aside (∀ (j : Nat) w, (j : Int) < nm → (Sem.run Tryz.prog (Instr.indexAt 45 (Value.slice (some ⟨g1, 0, none⟩) nm c1) (Value.int IntKind.i64 j)) w) = .ok (.pointer (some ⟨g1, j, none⟩)) w) := by
      intro j w hj
      have hj0 : (0 : Int) ≤ j := by omega
      simp [go_sem, *]
     go_upto_region 6 with (fail)
     go_cut [34] (fun t34 wx => t34 = .bool false ∧ Sat (treeP h s * (G * (Sl.block mb TMd [.slice (some ⟨g1, 0, none⟩) nm c1, .slice (some ⟨g2, 0, none⟩) nm c2] * (rw TIn 1 (.slice (some ⟨g1, 0, none⟩) nm c1) rs * (rw TLe 1 (.slice (some ⟨g2, 0, none⟩) nm c2) vs * (Sl.block b TBe [.pointer (some ⟨h.D, 0, none⟩), .pointer (some ⟨h.C, 0, none⟩), .pointer (some ⟨h.S, 0, none⟩), .pointer (some ⟨h.t, 0, none⟩)] * old w)))))) wx)
     case first =>
      rcases hways with h1 | ⟨h1, h2⟩
      all_goals
       go_wp2
       go_meet
       exact ⟨rfl, keep6 _ _ _ _ _ _⟩
     case rest =>
      as_aux_lemma =>
       obtain ⟨rfl, q1⟩ := hcut
       clear q0 hways this
       haveI := q1.i
       go_wp2_with fail
       with_reducible refine Calls.mono (HFL.out _ _ (takeI (treeP h s))) ?_
       rintro e w3 ⟨rfl, q2⟩
       haveI := q2.i
       clear q1 HFL
       go_wp2_with fail
       go_cut [6] (fun t6 wx => ∃ (af : Option Addr) (cf : Nat), t6 = .slice af nf cf ∧ Sat (treeP h sf * (rw TB 1 (.slice af nf cf) (bys file) * (G * (Sl.block mb TMd [.slice (some ⟨g1, 0, none⟩) nm c1, .slice (some ⟨g2, 0, none⟩) nm c2] * (rw TIn 1 (.slice (some ⟨g1, 0, none⟩) nm c1) rs * (rw TLe 1 (.slice (some ⟨g2, 0, none⟩) nm c2) vs * (Sl.block b TBe [.pointer (some ⟨h.D, 0, none⟩), .pointer (some ⟨h.C, 0, none⟩), .pointer (some ⟨h.S, 0, none⟩), .pointer (some ⟨h.t, 0, none⟩)] * old w))))))) wx)
       case first =>
        go_region_held3 (fun w' => w'.cell? ⟨b, 0, none⟩ = some (.pointer (some ⟨h.D, 0, none⟩))) (exact cell_sat _ _ _) (first
         | (go_at_call 50; with_reducible refine Calls.mono (HSZ.out _ _ (takeI (treeP h sf))) ?_; rintro e w4 ⟨rfl, rfl⟩)
         | (go_at_call 49; with_reducible refine Calls.mono (HRD.out _ _ (takeI (treeP h sf))) ?_; rintro e w5 ⟨af, cf, er, rfl, q5⟩; haveI := q5.i))
        all_goals
         go_wp2_with fail
         go_meet
         exact ⟨af, cf, rfl, keep8 _ _ _ _ _ _ _ _⟩
       case rest =>
        as_aux_lemma =>
         obtain ⟨af, cf, rfl, q3⟩ := hcut
         clear q2 HSZ HRD
         haveI := q3.i
         go_wp2_with fail
         with_reducible refine Calls.mono (HUS.out _ _ (takeI (treeP h sf))) ?_
         rintro e w6 ⟨ru, hu1, hu2, hu3, au, cu, rfl, q4⟩
         obtain ⟨nu, hnu⟩ : ∃ x, ru.length = x := ⟨_, rfl⟩
         have HU : Aside ((∀ x, Cov ru x ↔ x ∈ sf.sp.used) ∧ ru.length ≤ 1048576 ∧ ru.length = nu) := ⟨hu2, hu3, hnu⟩
         rw [hnu] at q4 ⊢
         have q5 : Sat (treeP h sf * (rw TB 1 (.slice af nf cf) (bys file) * (rw TRg 2 (.slice au nu cu) (rgs ru) * (G * (Sl.block mb TMd [.slice (some ⟨g1, 0, none⟩) nm c1, .slice (some ⟨g2, 0, none⟩) nm c2] * (rw TIn 1 (.slice (some ⟨g1, 0, none⟩) nm c1) rs * (rw TLe 1 (.slice (some ⟨g2, 0, none⟩) nm c2) vs * (Sl.block b TBe [.pointer (some ⟨h.D, 0, none⟩), .pointer (some ⟨h.C, 0, none⟩), .pointer (some ⟨h.S, 0, none⟩), .pointer (some ⟨h.t, 0, none⟩)] * old w)))))))) w6 := q4.eq (by ac_rfl)
         haveI := q5.i
         clear q3 q4 hu1 hu2 hu3 hnu HUS
         have HQ2 : Aside (∀ (j : Nat) w, (j : Int) < nm → (Sem.run Tryz.prog (Instr.indexAt 45 (Value.slice (some ⟨g1, 0, none⟩) nm c1) (Value.int IntKind.i64 j)) w) = .ok (.pointer (some ⟨g1, j, none⟩)) w) := HQR.out
         clear this
         haveI := q5.i
         go_wp2_with fail
         go_loopg [9] nm (fun g t9 wr => ∃ (j : Nat) (s2 : TS) (m2 : Nat), t9 = .int .i64 j ∧ j ≤ nm ∧ Aside (g = nm - j) ∧ Aside (Rdy (fileNode file) m2 s2 ∧ 1570000 * (31 - j) ≤ m2) ∧ Sat (treeP h s2 * (rw TB 1 (.slice af nf cf) (bys file) * (rw TRg 2 (.slice au nu cu) (rgs ru) * (G * (Sl.block mb TMd [.slice (some ⟨g1, 0, none⟩) nm c1, .slice (some ⟨g2, 0, none⟩) nm c2] * (rw TIn 1 (.slice (some ⟨g1, 0, none⟩) nm c1) rs * (rw TLe 1 (.slice (some ⟨g2, 0, none⟩) nm c2) vs * (Sl.block b TBe [.pointer (some ⟨h.D, 0, none⟩), .pointer (some ⟨h.C, 0, none⟩), .pointer (some ⟨h.S, 0, none⟩), .pointer (some ⟨h.t, 0, none⟩)] * old w)))))))) wr)
         case atStart => exact ⟨0, sf, 49000000, rfl, by omega, rfl, ⟨HF.out.2.2.2.2.1, by omega⟩, q5⟩
         case round =>
          as_aux_lemma =>
           clear q5
           obtain ⟨j, s2, m2, rfl, hj, A, P, q7⟩ := hrel
           haveI := q7.i
           by_cases hjn : j < nm
           · have hjn' : (j : Int) < nm := by omega
             obtain ⟨v, r, l, hv, hr, hle, hrt, hg, -⟩ := HF.out.1.at (i := j) (by rw [HF.out.2.1]; exact hjn)
             rw [HF.out.2.2.1] at hr
             obtain ⟨al, cl, rfl, hl1, hl2⟩ := hle.v
             haveI : At rs j (.int .i64 r) := ⟨hr⟩
             have hlen := hg.1.2.2
             have hsh := shape_ok HF.out.2.2.2.2.2.1 hrt hg
             have hV : ∀ p n, fileNode file p = some n → may n = true ∧ 1 ≤ p ∧ p < 1048576 := fun p n hp => ⟨fileNode_may hp, (fileNode_in hp).1, (fileNode_in hp).2.1⟩
             obtain ⟨lp, s3, hp1, hp2, hp3, hp4, hp5⟩ := tPages_tree hV (m := m2 - 1037) (s := s2) (P.out.1.less (by have := P.out.2; omega)) hsh.ok
             have hpg := fun F w q => pages_tany h s2 r F w q (by rw [hp1]; simp)
             rw [hp1] at hpg
             have hck := fun F w q => check_any (fileNode file) 120000 h (m2 - 1037) s3 r F w (fun p n hp => ⟨fileNode_may hp, by have := (fileNode_in hp).2.2; have := HF.out.2.2.2.2.2.2.1; omega⟩) hp2 (by have := P.out.2; omega) q
             have hlko : LkOk true 13 (rTree (fileNode file) r) := rTree_ok (fun p n h => (hV p n h).1) r
             have htr := fun F w q => r14tree_any file (.slice af nf cf) (rw TB 1 (.slice af nf cf) (bys file)) r F w (by have := HF.out.2.2.2.2.2.2.1; subst this; exact Reads.rw) (by have := HF.out.2.2.2.2.2.2.1; omega) q
             obtain ⟨x, hx⟩ : ∃ x, rTree (fileNode file) r = x := ⟨_, rfl⟩
             have HCK : Aside (∀ (F : Assn) w, Sat (treeP h s3 * F) w → Calls Tryz.prog 17 #[.pointer (some ⟨h.t, 0, none⟩), .int .i64 r] w fun e w' => ∃ (s4 : TS) (m4 : Nat), e = .returned (.int .i64 0) ∧ Rdy (fileNode file) m4 s4 ∧ 1570000 * (31 - (j + 1)) ≤ m4 ∧ Sat (treeP h s4 * F) w') := fun F w q => (hck F w q).mono fun e w' ⟨s4, m4, k1, k2, k3, k4, k5, k6⟩ => ⟨s4, m4, by rw [k5, hsh.ok]; rfl, k4, by have := k6 hsh.ok; have := P.out.2; omega, k1⟩
             have HPG : Aside (∀ (F : Assn) w, Sat (treeP h s2 * F) w → Calls Tryz.prog 51 #[.pointer (some ⟨h.t, 0, none⟩), .int .i64 r] w fun e w' => ∃ (ns : List Int) (kn : Nat), Aside (ns.Pairwise (· < ·) ∧ (∀ y, y ∈ ns ↔ y ∈ x.pages) ∧ ns.length = kn) ∧ ∃ (a : Option Addr) (c : Nat), e = .returned (.tuple #[.slice a kn c, .int .i64 0]) ∧ Sat (rw TIn 1 (.slice a kn c) (ints ns) * (treeP h s3 * F)) w') := fun F w q => (hpg F w q).mono fun e w' ⟨ns, k1, k2, k3⟩ => ⟨ns, ns.length, ⟨k1, fun y => by rw [k2, hp5, hx], rfl⟩, k3⟩
             have e1 := hsh.ok
             have e2 := hsh.ents
             have e3 := hsh.used
             rw [hx] at htr hlko e1 e2 e3
             obtain ⟨xo, xh, xe, xp⟩ := x
             simp only at e1 e2 e3
             have e4 : xp.length ≤ 1 + xe.length := hlko.pages
             subst e1 e2
             have HTR : Aside (∀ F w, Sat (rw TB 1 (.slice af nf cf) (bys file) * F) w → Calls Tryz.prog 16 #[.slice af nf cf, .int .i64 r] w (LkOut (rw TB 1 (.slice af nf cf) (bys file)) F ⟨true, xh, xe, xp⟩)) := htr
             obtain ⟨nl, hnl⟩ : ∃ x, xe.length = x := ⟨_, rfl⟩
             rw [hnl] at hl1 hlen hv e4
             haveI : At vs j (.slice al nl cl) := ⟨hv⟩
             have hqr := fun w => HQ2.out j w hjn'
             have HE : Aside (ReadsE G (.slice al xe.length cl) xe ∧ xe.length = nl ∧ (∀ p ∈ xp, p ∈ sf.sp.used) ∧ (∀ p ∈ xp, 0 ≤ p)) := ⟨hle, hnl, e3, fun p hp => HF.out.2.2.2.2.2.2.2 p (e3 p hp)⟩
             clear hv hr hle hrt hg hnl P hsh hlko hp1 hp2 hp3 hp4 hp5 hpg hck htr hx hV e3
             go_wp2_with fail
             with_reducible refine Calls.mono (HTR.out _ _ (takeI (rw TB 1 (.slice af nf cf) (bys file)))) ?_
             rintro e w8 ⟨v6, G6, rfl, hL6, q8⟩
             obtain ⟨vE, vP, rfl, hE6, hP6⟩ := hL6
             obtain ⟨xE, dE, rfl, hE1, hE2⟩ := hE6.v
             obtain ⟨xP, dP, rfl, hP1, hP2⟩ := hP6.v
             simp only at hE6 hP6 hE1 hP1
             obtain ⟨np, hnp⟩ : ∃ x, xp.length = x := ⟨_, rfl⟩
             have HX : Aside (ReadsE G6 (.slice xE xe.length dE) xe ∧ ReadsI G6 (.slice xP xp.length dP) xp ∧ xp.length = np) := ⟨hE6, hP6, hnp⟩
             rw [HE.out.2.1, hnp]
             rw [hnp] at hP1 e4
             rw [HE.out.2.1] at hE1
             obtain ⟨T, hT⟩ : ∃ x, w8.heap.size = x := ⟨_, rfl⟩
             haveI := q8.i
             clear hE6 hP6 hnp HTR
             go_wp2_with fail
             have q9 : Sat (Sl.block T TLk [.bool true, .int .i64 xh, .slice xE nl dE, .slice xP np dP] * (G6 * (treeP h s2 * (rw TB 1 (.slice af nf cf) (bys file) * (rw TRg 2 (.slice au nu cu) (rgs ru) * (G * (Sl.block mb TMd [.slice (some ⟨g1, 0, none⟩) nm c1, .slice (some ⟨g2, 0, none⟩) nm c2] * (rw TIn 1 (.slice (some ⟨g1, 0, none⟩) nm c1) rs * (rw TLe 1 (.slice (some ⟨g2, 0, none⟩) nm c2) vs * (Sl.block b TBe [.pointer (some ⟨h.D, 0, none⟩), .pointer (some ⟨h.C, 0, none⟩), .pointer (some ⟨h.S, 0, none⟩), .pointer (some ⟨h.t, 0, none⟩)] * old w)))))))))) (w8.alloc (.cells #[.bool true, .int .i64 xh, .slice xE nl dE, .slice xP np dP] TLk)) := by
              rw [← hT]
              exact satI_eq (by ac_rfl)
             try rw [hT]
             clear hT q8 this
             haveI := q9.i
             go_cut [11, 12] (fun t11 t12 wx => ∃ (ns : List Int) (kn : Nat) (ap : Option Addr) (cp : Nat), t11 = .slice ap kn cp ∧ t12 = .int .i64 0 ∧ Aside (ns.Pairwise (· < ·) ∧ (∀ y, y ∈ ns ↔ y ∈ xp) ∧ ns.length = kn) ∧ Sat (treeP h s3 * (rw TIn 1 (.slice ap kn cp) (ints ns) * (Sl.block T TLk [.bool true, .int .i64 xh, .slice xE nl dE, .slice xP np dP] * (G6 * (rw TB 1 (.slice af nf cf) (bys file) * (rw TRg 2 (.slice au nu cu) (rgs ru) * (G * (Sl.block mb TMd [.slice (some ⟨g1, 0, none⟩) nm c1, .slice (some ⟨g2, 0, none⟩) nm c2] * (rw TIn 1 (.slice (some ⟨g1, 0, none⟩) nm c1) rs * (rw TLe 1 (.slice (some ⟨g2, 0, none⟩) nm c2) vs * (Sl.block b TBe [.pointer (some ⟨h.D, 0, none⟩), .pointer (some ⟨h.C, 0, none⟩), .pointer (some ⟨h.S, 0, none⟩), .pointer (some ⟨h.t, 0, none⟩)] * old w))))))))))) wx)
             case first =>
              go_region_held3 (fun w' => w'.cell? ⟨b, 3, none⟩ = some (.pointer (some ⟨h.t, 0, none⟩)) ∧ w'.cell? ⟨mb, 0, none⟩ = some (.slice (some ⟨g1, 0, none⟩) nm c1) ∧ w'.cell? ⟨g1, j, none⟩ = some (.int .i64 r)) (first | exact ⟨cell_sat _ _ _, cell_sat _ _ _, cell_sat _ _ _⟩) (first
               | (go_at_call 51; with_reducible refine Calls.mono (HPG.out _ _ (takeI (treeP h s2))) ?_; rintro e w10 ⟨ns, kn, HN, ap, cp, rfl, q10⟩; haveI := q10.i))
              all_goals
               go_wp2_with fail
               go_meet
               exact ⟨ns, kn, ap, cp, rfl, rfl, HN, keep12 _ _ _ _ _ _ _ _ _ _ _ _⟩
             case rest =>
              as_aux_lemma =>
               obtain ⟨ns, kn, ap, cp, rfl, rfl, HN, q10⟩ := hcut
               clear q9 HPG
               haveI := q10.i
               have HSM : Aside (∀ F w, Sat (G6 * (G * F)) w → Calls Tryz.prog 45 #[.slice xE nl dE, .slice al nl cl] w fun e w' => e = .returned (.bool true) ∧ Sat (G6 * (G * F)) w') := fun F w q => by
                have h1 := HX.out.1
                have h2 := HE.out.1
                rw [HE.out.2.1] at h1 h2
                refine (rsame_any xe xe (.slice xE nl dE) (.slice al nl cl) (G6 * G) F w (ReadsR.left h1) (ReadsR.right h2) (q.eq (sep_assoc _ _ _).symm) (by rw [HE.out.2.1]; omega) (by rw [HE.out.2.1]; omega)).mono ?_
                rintro e w' ⟨rfl, q'⟩
                exact ⟨by simp, q'.eq (sep_assoc _ _ _)⟩
               go_wp2_with fail
               go_cut [144] (fun t144 wx => ∃ (s4 : TS) (m4 : Nat), t144 = .bool false ∧ Aside (Rdy (fileNode file) m4 s4 ∧ 1570000 * (31 - (j + 1)) ≤ m4) ∧ Sat (treeP h s4 * (rw TIn 1 (.slice ap kn cp) (ints ns) * (Sl.block T TLk [.bool true, .int .i64 xh, .slice xE nl dE, .slice xP np dP] * (G6 * (rw TB 1 (.slice af nf cf) (bys file) * (rw TRg 2 (.slice au nu cu) (rgs ru) * (G * (Sl.block mb TMd [.slice (some ⟨g1, 0, none⟩) nm c1, .slice (some ⟨g2, 0, none⟩) nm c2] * (rw TIn 1 (.slice (some ⟨g1, 0, none⟩) nm c1) rs * (rw TLe 1 (.slice (some ⟨g2, 0, none⟩) nm c2) vs * (Sl.block b TBe [.pointer (some ⟨h.D, 0, none⟩), .pointer (some ⟨h.C, 0, none⟩), .pointer (some ⟨h.S, 0, none⟩), .pointer (some ⟨h.t, 0, none⟩)] * old w))))))))))) wx)
               case first =>
                go_region_held3 (fun w' => w'.cell? ⟨T, 0, none⟩ = some (.bool true) ∧ w'.cell? ⟨T, 2, none⟩ = some (.slice xE nl dE) ∧ w'.cell? ⟨b, 3, none⟩ = some (.pointer (some ⟨h.t, 0, none⟩)) ∧ w'.cell? ⟨mb, 0, none⟩ = some (.slice (some ⟨g1, 0, none⟩) nm c1) ∧ w'.cell? ⟨mb, 1, none⟩ = some (.slice (some ⟨g2, 0, none⟩) nm c2) ∧ w'.cell? ⟨g1, j, none⟩ = some (.int .i64 r) ∧ w'.cell? ⟨g2, j, none⟩ = some (.slice al nl cl)) (first | exact ⟨cell_sat _ _ _, cell_sat _ _ _, cell_sat _ _ _, cell_sat _ _ _, cell_sat _ _ _, cell_sat _ _ _, cell_sat _ _ _⟩) (first
                 | (go_at_call 45; with_reducible refine Calls.mono (HSM.out _ _ (takeI2 G6 G)) ?_; rintro e w11 ⟨rfl, q11⟩; haveI := q11.i)
                 | (go_at_call 17; with_reducible refine Calls.mono (HCK.out _ _ (takeI (treeP h s3))) ?_; rintro e w12 ⟨s4, m4, rfl, r4, h4, q12⟩; haveI := q12.i))
                all_goals
                 go_wp2_with fail
                 go_meet
                 exact ⟨s4, m4, rfl, ⟨r4, h4⟩, keep12 _ _ _ _ _ _ _ _ _ _ _ _⟩
               case rest =>
                as_aux_lemma =>
                 obtain ⟨s4, m4, rfl, HR4, q12⟩ := hcut
                 clear q10 HSM HCK this hqr
                 haveI := q12.i
                 obtain ⟨hk1, hk2⟩ : kn ≤ np ∧ (0 < np → 0 < kn) := by
                  have := nums_ok (l := xp) HN.out.1 HN.out.2.1 (fun _ => Iff.rfl)
                  rwa [HN.out.2.2, HX.out.2.2] at this
                 go_wp2_with fail
                 go_loopg [13] kn (fun g t13 wr => ∃ (k : Nat), t13 = .int .i64 k ∧ k ≤ kn ∧ Aside (g = kn - k) ∧ Sat (treeP h s4 * (rw TIn 1 (.slice ap kn cp) (ints ns) * (Sl.block T TLk [.bool true, .int .i64 xh, .slice xE nl dE, .slice xP np dP] * (G6 * (rw TB 1 (.slice af nf cf) (bys file) * (rw TRg 2 (.slice au nu cu) (rgs ru) * (G * (Sl.block mb TMd [.slice (some ⟨g1, 0, none⟩) nm c1, .slice (some ⟨g2, 0, none⟩) nm c2] * (rw TIn 1 (.slice (some ⟨g1, 0, none⟩) nm c1) rs * (rw TLe 1 (.slice (some ⟨g2, 0, none⟩) nm c2) vs * (Sl.block b TBe [.pointer (some ⟨h.D, 0, none⟩), .pointer (some ⟨h.C, 0, none⟩), .pointer (some ⟨h.S, 0, none⟩), .pointer (some ⟨h.t, 0, none⟩)] * old w))))))))))) wr)
                 case atStart => exact ⟨0, rfl, by omega, rfl, q12⟩
                 case round =>
                  as_aux_lemma =>
                   obtain ⟨k, rfl, hk, A2, q13⟩ := hrel
                   clear q12
                   haveI := q13.i
                   by_cases hkk : k < kn
                   · have hkk' : (k : Int) < kn := by omega
                     obtain ⟨y, hy⟩ : ∃ y, ns[k]? = some y := ⟨_, List.getElem?_eq_getElem (by rw [HN.out.2.2]; exact hkk)⟩
                     obtain ⟨gp, rfl⟩ := row_some (hs := q13.take (rw TIn 1 (.slice ap kn cp) (ints ns))) (by omega)
                     haveI := q13.i
                     haveI : At (ints ns) k (.int .i64 y) := ⟨by unfold ints; rw [List.getElem?_map, hy]; rfl⟩
                     have hyp : y ∈ xp := (HN.out.2.1 y).1 (List.mem_of_getElem? hy)
                     have hy0 : 0 ≤ y := HE.out.2.2.2 y hyp
                     have HHS : Aside (∀ F w, Sat (rw TRg 2 (.slice au nu cu) (rgs ru) * F) w → Calls Tryz.prog 52 #[.slice au nu cu, .int .i64 y] w fun e w' => e = .returned (.bool true) ∧ Sat (rw TRg 2 (.slice au nu cu) (rgs ru) * F) w') := fun F w q => by
                      have h1 := HU.out.2.2
                      subst h1
                      refine (rhas_any au cu ru y F w HU.out.2.1 hy0 q).mono ?_
                      rintro e w' ⟨rfl, q'⟩
                      exact ⟨by rw [hasC_yes ((HU.out.1 y).2 (HE.out.2.2.1 y hyp))], q'⟩
                     have HY : Aside (ns[k]? = some y ∧ y ∈ xp) := ⟨hy, hyp⟩
                     clear hy hyp
                     go_wp2_with fail
                     go_loopg [15, 14] np (fun g t15 t14 wr2 => ∃ (i2 mt : Nat), t15 = .int .i64 i2 ∧ t14 = .int .i64 mt ∧ i2 ≤ np ∧ mt ≤ i2 ∧ Aside (g = np - i2 ∧ mt = (xp.take i2).count y) ∧ Sat (treeP h s4 * (rw TIn 1 (.slice (some ⟨gp, 0, none⟩) kn cp) (ints ns) * (Sl.block T TLk [.bool true, .int .i64 xh, .slice xE nl dE, .slice xP np dP] * (G6 * (rw TB 1 (.slice af nf cf) (bys file) * (rw TRg 2 (.slice au nu cu) (rgs ru) * (G * (Sl.block mb TMd [.slice (some ⟨g1, 0, none⟩) nm c1, .slice (some ⟨g2, 0, none⟩) nm c2] * (rw TIn 1 (.slice (some ⟨g1, 0, none⟩) nm c1) rs * (rw TLe 1 (.slice (some ⟨g2, 0, none⟩) nm c2) vs * (Sl.block b TBe [.pointer (some ⟨h.D, 0, none⟩), .pointer (some ⟨h.C, 0, none⟩), .pointer (some ⟨h.S, 0, none⟩), .pointer (some ⟨h.t, 0, none⟩)] * old w))))))))))) wr2)
                     case atStart => exact ⟨0, 0, rfl, rfl, by omega, by omega, ⟨rfl, by simp⟩, keep12 _ _ _ _ _ _ _ _ _ _ _ _⟩
                     case round =>
                      as_aux_lemma =>
                       obtain ⟨i2, mt, rfl, rfl, hi2, hmt, A3, q14⟩ := hrel
                       clear q13
                       haveI := q14.i
                       by_cases hii : i2 < np
                       · have hii' : (i2 : Int) < np := by omega
                         obtain ⟨z2, hz2⟩ : ∃ z, xp[i2]? = some z := ⟨_, List.getElem?_eq_getElem (by rw [HX.out.2.2]; exact hii)⟩
                         have hrp := HX.out.2.1
                         rw [HX.out.2.2] at hrp
                         obtain ⟨bp, op, hap, rp⟩ := ReadsR.at (show ReadsR 1 G6 (.slice xP np dP) np (icv xp) by have := hrp; unfold ReadsI at this; rwa [HX.out.2.2] at this) i2 (.int .i64 z2) (by unfold icv; rw [List.getElem?_map, hz2]; rfl)
                         subst hap
                         have HZ2 : Aside (xp[i2]? = some z2) := hz2
                         have hct := count_snoc hz2 y
                         have HCT : Aside ((xp.take (i2 + 1)).count y = (xp.take i2).count y + if z2 = y then 1 else 0) := hct
                         clear hz2 hrp hct
                         cases ezy : ((z2 : Int) == y) with
                         | true =>
                           have HZY : Aside (z2 = y) := (by simpa using ezy : z2 = y)
                           go_wp2_with fail
                           go_region
                           go_wp2_with fail
                           go_roundg (np - (i2 + 1))
                           case measure => have := A3.out.1; omega
                           case rel => exact ⟨i2 + 1, mt + 1, by go_num, by go_num, by omega, by omega, ⟨rfl, by rw [HCT.out, if_pos HZY.out, A3.out.2]⟩, keep12 _ _ _ _ _ _ _ _ _ _ _ _⟩
                         | false =>
                           have HZY : Aside (¬ z2 = y) := (by simpa using ezy : ¬ z2 = y)
                           go_wp2_with fail
                           go_region
                           go_wp2_with fail
                           go_roundg (np - (i2 + 1))
                           case measure => have := A3.out.1; omega
                           case rel => exact ⟨i2 + 1, mt, by go_num, rfl, by omega, by omega, ⟨rfl, by rw [HCT.out, if_neg HZY.out, A3.out.2]; rfl⟩, keep12 _ _ _ _ _ _ _ _ _ _ _ _⟩
                       · have hii' : ¬ (i2 : Int) < np := by omega
                         obtain rfl : np = i2 := by omega
                         have hm1 : ¬ (mt : Int) < 1 := by
                          have h1 := A3.out.2
                          rw [List.take_of_length_le (by rw [HX.out.2.2]; exact Nat.le_refl _)] at h1
                          have := List.count_pos_iff.2 HY.out.2
                          omega
                         clear A3
                         go_wp2_with fail
                         go_cut [196] (fun t196 wx => t196 = .bool false ∧ Sat (treeP h s4 * (rw TIn 1 (.slice (some ⟨gp, 0, none⟩) kn cp) (ints ns) * (Sl.block T TLk [.bool true, .int .i64 xh, .slice xE nl dE, .slice xP np dP] * (G6 * (rw TB 1 (.slice af nf cf) (bys file) * (rw TRg 2 (.slice au nu cu) (rgs ru) * (G * (Sl.block mb TMd [.slice (some ⟨g1, 0, none⟩) nm c1, .slice (some ⟨g2, 0, none⟩) nm c2] * (rw TIn 1 (.slice (some ⟨g1, 0, none⟩) nm c1) rs * (rw TLe 1 (.slice (some ⟨g2, 0, none⟩) nm c2) vs * (Sl.block b TBe [.pointer (some ⟨h.D, 0, none⟩), .pointer (some ⟨h.C, 0, none⟩), .pointer (some ⟨h.S, 0, none⟩), .pointer (some ⟨h.t, 0, none⟩)] * old w))))))))))) wx)
                         case first =>
                          by_cases hk0 : k = 0
                          · have hk0' : ¬ (0 : Int) < (k : Int) := by omega
                            have hm2 : ¬ (mt : Int) < 1 := by omega
                            have hk9 : ¬ 0 < k := by omega
                            clear hk0
                            refine Dr.wpB_start (fun w' => w'.cell? ⟨gp, k, none⟩ = some (.int .i64 y)) [] (by kernel_rfl) (cell_sat _ _ _) (fun hHeld => ?_)
                            refine Dr.wpB_pure 0 (v := ?v0) (by simp only [List.getElem?_toArray, List.getElem?_cons_succ, List.getElem?_cons_zero]; rfl) (by kernel_rfl) ?hQ0 (.inl ⟨?hw0, fun w' => ?hy0⟩) ?_
                            case hy0 => go_simp; try (with_reducible rfl)
                            case hQ0 => exact fun _ _ _ h => h
                            case hw0 => rfl
                            simp only [Act.put, List.setIfInBounds_toArray, List.set_cons_zero, List.set_cons_succ]
                            refine Dr.wpB_pure 1 (v := ?v1) (by simp only [List.getElem?_toArray, List.getElem?_cons_succ, List.getElem?_cons_zero]; rfl) (by kernel_rfl) ?hQ1 (.inl ⟨?hw1, fun w' => ?hy1⟩) ?_
                            case hy1 => go_simp; try (with_reducible rfl)
                            case hQ1 => exact fun _ _ _ h => h
                            case hw1 => rfl
                            simp only [Act.put, List.setIfInBounds_toArray, List.set_cons_zero, List.set_cons_succ]
                            refine Dr.wpB_pure 2 (v := ?v2) (by simp only [List.getElem?_toArray, List.getElem?_cons_succ, List.getElem?_cons_zero]; rfl) (by kernel_rfl) ?hQ2 (.inl ⟨?hw2, fun w' => ?hy2⟩) ?_
                            case hy2 => go_simp; try (with_reducible rfl)
                            case hQ2 => exact fun _ _ _ h => h
                            case hw2 => rfl
                            simp only [Act.put, List.setIfInBounds_toArray, List.set_cons_zero, List.set_cons_succ]
                            refine Dr.wpB_pure 3 (v := ?v3) (by simp only [List.getElem?_toArray, List.getElem?_cons_succ, List.getElem?_cons_zero]; rfl) (by kernel_rfl) ?hQ3 (.inl ⟨?hw3, fun w' => ?hy3⟩) ?_
                            case hy3 => go_simp; try (with_reducible rfl)
                            case hQ3 => exact fun _ _ _ h => h
                            case hw3 => rfl
                            simp only [Act.put, List.setIfInBounds_toArray, List.set_cons_zero, List.set_cons_succ]
                            refine Dr.wpB_pure 4 (v := ?v4) (by simp only [List.getElem?_toArray, List.getElem?_cons_succ, List.getElem?_cons_zero]; rfl) (by kernel_rfl) ?hQ4 (.inl ⟨?hw4, fun w' => ?hy4⟩) ?_
                            case hy4 => go_simp; try (with_reducible rfl)
                            case hQ4 => exact fun _ _ _ h => h
                            case hw4 => rfl
                            simp only [Act.put, List.setIfInBounds_toArray, List.set_cons_zero, List.set_cons_succ]
                            refine Dr.wpB_pure 5 (v := ?v5) (by simp only [List.getElem?_toArray, List.getElem?_cons_succ, List.getElem?_cons_zero]; rfl) (by kernel_rfl) ?hQ5 (.inl ⟨?hw5, fun w' => ?hy5⟩) ?_
                            case hy5 => go_simp; try (with_reducible rfl)
                            case hQ5 => exact fun _ _ _ h => h
                            case hw5 => rfl
                            simp only [Act.put, List.setIfInBounds_toArray, List.set_cons_zero, List.set_cons_succ]
                            refine Dr.wpB_pure 6 (v := undef) (by simp only [List.getElem?_toArray, List.getElem?_cons_succ, List.getElem?_cons_zero]; rfl) (by kernel_rfl) ?hQ6 (.inr ⟨?hw6, rfl⟩) ?_
                            case hQ6 => exact fun _ _ _ h => h
                            case hw6 => rfl
                            simp only [Act.put, List.setIfInBounds_toArray, List.set_cons_zero, List.set_cons_succ]
                            refine Dr.wpB_pure 7 (v := undef) (by simp only [List.getElem?_toArray, List.getElem?_cons_succ, List.getElem?_cons_zero]; rfl) (by kernel_rfl) ?hQ7 (.inr ⟨?hw7, rfl⟩) ?_
                            case hQ7 => exact fun _ _ _ h => h
                            case hw7 => rfl
                            simp only [Act.put, List.setIfInBounds_toArray, List.set_cons_zero, List.set_cons_succ]
                            refine Dr.wpB_pure 8 (v := undef) (by simp only [List.getElem?_toArray, List.getElem?_cons_succ, List.getElem?_cons_zero]; rfl) (by kernel_rfl) ?hQ8 (.inr ⟨?hw8, rfl⟩) ?_
                            case hQ8 => exact fun _ _ _ h => h
                            case hw8 => rfl
                            simp only [Act.put, List.setIfInBounds_toArray, List.set_cons_zero, List.set_cons_succ]
                            refine Dr.wpB_pure 9 (v := undef) (by simp only [List.getElem?_toArray, List.getElem?_cons_succ, List.getElem?_cons_zero]; rfl) (by kernel_rfl) ?hQ9 (.inr ⟨?hw9, rfl⟩) ?_
                            case hQ9 => exact fun _ _ _ h => h
                            case hw9 => rfl
                            simp only [Act.put, List.setIfInBounds_toArray, List.set_cons_zero, List.set_cons_succ]
                            refine Dr.wpB_pure 10 (v := undef) (by simp only [List.getElem?_toArray, List.getElem?_cons_succ, List.getElem?_cons_zero]; rfl) (by kernel_rfl) ?hQ10 (.inr ⟨?hw10, rfl⟩) ?_
                            case hQ10 => exact fun _ _ _ h => h
                            case hw10 => rfl
                            simp only [Act.put, List.setIfInBounds_toArray, List.set_cons_zero, List.set_cons_succ]
                            refine Dr.wpB_pure 11 (v := undef) (by simp only [List.getElem?_toArray, List.getElem?_cons_succ, List.getElem?_cons_zero]; rfl) (by kernel_rfl) ?hQ11 (.inr ⟨?hw11, rfl⟩) ?_
                            case hQ11 => exact fun _ _ _ h => h
                            case hw11 => rfl
                            simp only [Act.put, List.setIfInBounds_toArray, List.set_cons_zero, List.set_cons_succ]
                            refine Dr.wpB_pure 12 (v := undef) (by simp only [List.getElem?_toArray, List.getElem?_cons_succ, List.getElem?_cons_zero]; rfl) (by kernel_rfl) ?hQ12 (.inr ⟨?hw12, rfl⟩) ?_
                            case hQ12 => exact fun _ _ _ h => h
                            case hw12 => rfl
                            simp only [Act.put, List.setIfInBounds_toArray, List.set_cons_zero, List.set_cons_succ]
                            refine Dr.wpB_pure 13 (v := undef) (by simp only [List.getElem?_toArray, List.getElem?_cons_succ, List.getElem?_cons_zero]; rfl) (by kernel_rfl) ?hQ13 (.inr ⟨?hw13, rfl⟩) ?_
                            case hQ13 => exact fun _ _ _ h => h
                            case hw13 => rfl
                            simp only [Act.put, List.setIfInBounds_toArray, List.set_cons_zero, List.set_cons_succ]
                            refine Dr.wpB_pure 14 (v := undef) (by simp only [List.getElem?_toArray, List.getElem?_cons_succ, List.getElem?_cons_zero]; rfl) (by kernel_rfl) ?hQ14 (.inr ⟨?hw14, rfl⟩) ?_
                            case hQ14 => exact fun _ _ _ h => h
                            case hw14 => rfl
                            simp only [Act.put, List.setIfInBounds_toArray, List.set_cons_zero, List.set_cons_succ]
                            refine Dr.wpB_pure 15 (v := undef) (by simp only [List.getElem?_toArray, List.getElem?_cons_succ, List.getElem?_cons_zero]; rfl) (by kernel_rfl) ?hQ15 (.inr ⟨?hw15, rfl⟩) ?_
                            case hQ15 => exact fun _ _ _ h => h
                            case hw15 => rfl
                            simp only [Act.put, List.setIfInBounds_toArray, List.set_cons_zero, List.set_cons_succ]
                            refine Dr.wpB_pure 16 (v := ?v16) (by simp only [List.getElem?_toArray, List.getElem?_cons_succ, List.getElem?_cons_zero]; rfl) (by kernel_rfl) ?hQ16 (.inl ⟨?hw16, fun w' => ?hy16⟩) ?_
                            case hy16 => go_simp; try (with_reducible rfl)
                            case hQ16 => exact fun _ _ _ h => h
                            case hw16 => rfl
                            simp only [Act.put, List.setIfInBounds_toArray, List.set_cons_zero, List.set_cons_succ]
                            refine Dr.wpB_pure 17 (v := ?v17) (by simp only [List.getElem?_toArray, List.getElem?_cons_succ, List.getElem?_cons_zero]; rfl) (by kernel_rfl) ?hQ17 (.inl ⟨?hw17, fun w' => ?hy17⟩) ?_
                            case hy17 => go_simp; try (with_reducible rfl)
                            case hQ17 => exact fun _ _ _ h => h
                            case hw17 => rfl
                            simp only [Act.put, List.setIfInBounds_toArray, List.set_cons_zero, List.set_cons_succ]
                            refine Dr.wpB_pure 18 (v := ?v18) (by simp only [List.getElem?_toArray, List.getElem?_cons_succ, List.getElem?_cons_zero]; rfl) (by kernel_rfl) ?hQ18 (.inl ⟨?hw18, fun w' => ?hy18⟩) ?_
                            case hy18 => go_simp; try (with_reducible rfl)
                            case hQ18 => exact fun _ _ _ h => h
                            case hw18 => rfl
                            simp only [Act.put, List.setIfInBounds_toArray, List.set_cons_zero, List.set_cons_succ]
                            refine Dr.wpB_pure 19 (v := ?v19) (by simp only [List.getElem?_toArray, List.getElem?_cons_succ, List.getElem?_cons_zero]; rfl) (by kernel_rfl) ?hQ19 (.inl ⟨?hw19, fun w' => ?hy19⟩) ?_
                            case hy19 => go_simp; try (with_reducible rfl)
                            case hQ19 => exact fun _ _ _ h => h
                            case hw19 => rfl
                            simp only [Act.put, List.setIfInBounds_toArray, List.set_cons_zero, List.set_cons_succ]
                            refine Dr.wpB_pure 20 (v := ?v20) (by simp only [List.getElem?_toArray, List.getElem?_cons_succ, List.getElem?_cons_zero]; rfl) (by kernel_rfl) ?hQ20 (.inl ⟨?hw20, fun w' => ?hy20⟩) ?_
                            case hy20 => go_simp; try (with_reducible rfl)
                            case hQ20 => exact fun _ _ _ h => h
                            case hw20 => rfl
                            simp only [Act.put, List.setIfInBounds_toArray, List.set_cons_zero, List.set_cons_succ]
                            refine Dr.wpB_pure 21 (v := ?v21) (by simp only [List.getElem?_toArray, List.getElem?_cons_succ, List.getElem?_cons_zero]; rfl) (by kernel_rfl) ?hQ21 (.inl ⟨?hw21, fun w' => ?hy21⟩) ?_
                            case hy21 => go_simp; try (with_reducible rfl)
                            case hQ21 => exact fun _ _ _ h => h
                            case hw21 => rfl
                            simp only [Act.put, List.setIfInBounds_toArray, List.set_cons_zero, List.set_cons_succ]
                            refine Dr.wpB_pure 22 (v := ?v22) (by simp only [List.getElem?_toArray, List.getElem?_cons_succ, List.getElem?_cons_zero]; rfl) (by kernel_rfl) ?hQ22 (.inl ⟨?hw22, fun w' => ?hy22⟩) ?_
                            case hy22 => go_simp; try (with_reducible rfl)
                            case hQ22 => exact fun _ _ _ h => h
                            case hw22 => rfl
                            simp only [Act.put, List.setIfInBounds_toArray, List.set_cons_zero, List.set_cons_succ]
                            refine Dr.wpB_take 23 (v := ?v23) (by simp only [List.getElem?_toArray, List.getElem?_cons_succ, List.getElem?_cons_zero]; rfl) (by kernel_rfl) ?hQ23 (.inl ⟨?hw23, fun w' hw => ?hy23⟩) hHeld ?_
                            case hy23 => (try dsimp only at hw); go_simp; try (with_reducible rfl)
                            case hQ23 => exact fun _ _ _ h => h
                            case hw23 => rfl
                            simp only [Act.put, List.setIfInBounds_toArray, List.set_cons_zero, List.set_cons_succ]
                            refine Dr.wpB_one 24 (by simp only [List.getElem?_toArray, List.getElem?_cons_succ, List.getElem?_cons_zero]; rfl) (by kernel_rfl) ?_
                            go_wp2_with (go_simp; go_at_call 52; with_reducible refine Calls.mono (HHS.out _ _ (takeI (rw TRg 2 (.slice au nu cu) (rgs ru)))) ?_; rintro e w15 ⟨rfl, q15⟩; haveI := q15.i)
                            refine Dr.nextQ_n ⟨(cell_sat _ _ _), ?_⟩
                            refine Dr.wpB_pure 25 (v := ?v25) (by simp only [List.getElem?_toArray, List.getElem?_cons_succ, List.getElem?_cons_zero]; rfl) (by kernel_rfl) ?hQ25 (.inl ⟨?hw25, fun w' => ?hy25⟩) ?_
                            case hy25 => go_simp; try (with_reducible rfl)
                            case hQ25 => exact fun _ _ _ h => h
                            case hw25 => rfl
                            simp only [Act.put, List.setIfInBounds_toArray, List.set_cons_zero, List.set_cons_succ]
                            refine Dr.wpB_pure 26 (v := ?v26) (by simp only [List.getElem?_toArray, List.getElem?_cons_succ, List.getElem?_cons_zero]; rfl) (by kernel_rfl) ?hQ26 (.inl ⟨?hw26, fun w' => ?hy26⟩) ?_
                            case hy26 => go_simp; try (with_reducible rfl)
                            case hQ26 => exact fun _ _ _ h => h
                            case hw26 => rfl
                            simp only [Act.put, List.setIfInBounds_toArray, List.set_cons_zero, List.set_cons_succ]
                            refine Dr.wpB_tail [] (os := []) (by decide) rfl (by kernel_rfl) ?_
                            all_goals
                             go_wp2_with fail
                             go_meet
                             exact ⟨rfl, keep12 _ _ _ _ _ _ _ _ _ _ _ _⟩
                          · have hm2 : ¬ (mt : Int) < 1 := by omega
                            obtain ⟨k', hk'⟩ : ∃ k', k = k' + 1 := ⟨k - 1, by omega⟩
                            obtain ⟨y', hy'⟩ : ∃ y, ns[k']? = some y := ⟨_, List.getElem?_eq_getElem (by rw [HN.out.2.2]; omega)⟩
                            haveI : At (ints ns) k' (.int .i64 y') := ⟨by unfold ints; rw [List.getElem?_map, hy']; rfl⟩
                            have hlt2 : ¬ y ≤ y' := by
                             have := pairwise_at HN.out.1 hy' HY.out.1 (by omega)
                             omega
                            have hw9 : IntKind.i64.wrap ((k : Int) - 1) = (k' : Int) := by rw [show (k : Int) - 1 = (k' : Int) by omega]; exact IntWalk.i64_in _ (by omega)
                            have hk6 : (k' : Int) < kn := by omega
                            have hk7 : 0 < k := by omega
                            have hk0' : (0 : Int) < (k : Int) := by omega
                            clear hy' hk' hk0
                            go_region_held3 (fun w' => w'.cell? ⟨gp, k, none⟩ = some (.int .i64 y) ∧ w'.cell? ⟨gp, k', none⟩ = some (.int .i64 y')) (exact ⟨cell_sat _ _ _, cell_sat _ _ _⟩) (first
                             | (go_at_call 52; with_reducible refine Calls.mono (HHS.out _ _ (takeI (rw TRg 2 (.slice au nu cu) (rgs ru)))) ?_; rintro e w15 ⟨rfl, q15⟩; haveI := q15.i))
                            all_goals
                             go_wp2_with fail
                             go_meet
                             exact ⟨rfl, keep12 _ _ _ _ _ _ _ _ _ _ _ _⟩
                         case rest =>
                          as_aux_lemma =>
                           obtain ⟨rfl, q15⟩ := hcut
                           clear q14 HHS
                           haveI := q15.i
                           go_wp2_with fail
                           go_roundg (kn - (k + 1))
                           case measure => have := A2.out; omega
                           case rel => exact ⟨k + 1, by go_num, by omega, rfl, keep12 _ _ _ _ _ _ _ _ _ _ _ _⟩
                   · have hkk' : ¬ (k : Int) < kn := by omega
                     have hgt : ¬ (np : Int) < kn := by omega
                     by_cases hnp0 : np = 0
                     · subst hnp0
                       go_wp2_with fail
                       go_roundg (nm - (j + 1))
                       case measure => have := A.out; omega
                       case rel => exact ⟨j + 1, s4, m4, by go_num, by omega, rfl, HR4, satI_weak (C := rw TIn 1 (.slice ap kn cp) (ints ns) * (Sl.block T TLk [.bool true, .int .i64 xh, .slice xE nl dE, .slice xP 0 dP] * G6)) (by ac_rfl)⟩
                     · have hnp1 : (0 : Int) < np := by omega
                       have hkz : ((kn : Int) == 0) = false := by simp; omega
                       go_wp2_with fail
                       go_roundg (nm - (j + 1))
                       case measure => have := A.out; omega
                       case rel => exact ⟨j + 1, s4, m4, by go_num, by omega, rfl, HR4, satI_weak (C := rw TIn 1 (.slice ap kn cp) (ints ns) * (Sl.block T TLk [.bool true, .int .i64 xh, .slice xE nl dE, .slice xP np dP] * G6)) (by ac_rfl)⟩
           · have hjn' : ¬ (j : Int) < nm := by omega
             clear A P
             go_wp2
             go_ret
             exact ⟨rfl, below_is⟩
end Go.Proofs.YtfhbmblbidcmmaaGreat
namespace Go.Proofs.YtfhbmblbidcmmaaGreat
set_option linter.unusedSimpArgs false
set_option linter.unusedVariables false
open Go.RowKit Go.Sl Go.Dk Go.Tr Go.ChangeShapes Go.WideShapes
theorem five_of {r : List Value} (h : r.length = 5) : ∃ a b c d e, r = [a, b, c, d, e] := by
 match r, h with
 | [a, b, c, d, e], _ => exact ⟨a, b, c, d, e, rfl⟩
theorem rowsP_map {α : Type} {f : α → List Value} {p : α → Prop} : ∀ l : List (List Value), (∀ r ∈ l, ∃ c, r = f c ∧ p c) → ∃ cs : List α, l = cs.map f ∧ ∀ c ∈ cs, p c
 | [], _ => ⟨[], rfl, fun _ h => by cases h⟩
 | r :: l, hl => by
   obtain ⟨c, rfl, hc⟩ := hl r (by simp)
   obtain ⟨cs, rfl, hcs⟩ := rowsP_map l fun r' hr' => hl r' (by simp [hr'])
   exact ⟨c :: cs, rfl, fun x hx => by
    rcases List.mem_cons.1 hx with h | h
    · rw [h]; exact hc
    · exact hcs x h⟩
theorem calls14_in {H : Type} {enc : TypeId × Value → H} {w : World} {base : Nat} {spare : Nat → Bool} {held : Bool} {a : Option Addr} {len cap : Nat}
 (h : ∃ fuel x, DataW.trod enc Tryz.prog w base spare held fuel 101 [.slice a len cap] = some x) :
 ∃ cs : List CallT, Rws w (.slice a len cap) 5 (cs.map crowT) ∧ cs.length = len ∧ len ≤ 9223372036854775807 ∧ ∀ c ∈ cs, ReadsE (old w) (.slice c.a c.put.length c.c) c.put ∧ c.put.length ≤ 9223372036854775807 := by
 obtain ⟨fuel, x, hx⟩ := h
 obtain ⟨rs, h1, h2, h3, h4⟩ := rows_of_trod (s := 5) Tryz.underlying101 (by kernel_rfl) (by omega) hx
 obtain ⟨cs, rfl, hcs⟩ := rowsP_map (f := crowT) (p := fun c => ReadsE (old w) (.slice c.a c.put.length c.c) c.put ∧ c.put.length ≤ 9223372036854775807) rs (by
  intro r hr
  obtain ⟨n, y, hy⟩ := h4 r hr
  obtain ⟨hl, n', hf⟩ := field_of_trod Tryz.underlying107 hy
  obtain ⟨v0, v1, v2, v3, v4, rfl⟩ := five_of (hl.trans (by kernel_rfl))
  have c0 : Tryz.prog.cellsOf 3 = 1 := by kernel_rfl
  have c3 : Tryz.prog.cellsOf 29 = 1 := by kernel_rfl
  obtain ⟨_, y0, e0⟩ := fieldE_at Tryz.underlying107 hy 0 3 0 1 rfl c0
  obtain ⟨_, y1, e1⟩ := fieldE_at Tryz.underlying107 hy 1 3 1 1 rfl c0
  obtain ⟨_, y2, e2⟩ := fieldE_at Tryz.underlying107 hy 2 3 2 1 rfl c0
  obtain ⟨_, y3, e3⟩ := fieldE_at Tryz.underlying107 hy 3 3 3 1 rfl c0
  obtain ⟨n4, y4, e4⟩ := fieldE_at Tryz.underlying107 hy 4 29 4 1 rfl c3
  obtain ⟨z0, rfl, w0⟩ := int_of_trod Tryz.underlying3 e0
  obtain ⟨z1, rfl, w1⟩ := int_of_trod Tryz.underlying3 e1
  obtain ⟨z2, rfl, w2⟩ := int_of_trod Tryz.underlying3 e2
  obtain ⟨z3, rfl, w3⟩ := int_of_trod Tryz.underlying3 e3
  have hs : ∃ a n c, v4 = .slice a n c := by
   rcases DataW.trod_slice Tryz.underlying29 e4 with ⟨h0, _⟩ | ⟨a, len, cap, elems, rest, n, _, h1, _⟩
   · exact ⟨none, 0, 0, by simpa using h0⟩
   · exact ⟨some a, len, cap, by simpa using h1⟩
  obtain ⟨pa, pn, pc, rfl⟩ := hs
  obtain ⟨l, hl, hE⟩ := entries_in ⟨n4, y4, e4⟩
  subst hl
  obtain ⟨_, _, q, q1, q2⟩ := hE.v
  cases q
  exact ⟨⟨z0, z1, z2, z3, pa, pc, l⟩, rfl, hE, by show l.length ≤ _; omega⟩)
 exact ⟨cs, h1, by simpa using h2, h3, hcs⟩
end Go.Proofs.YtfhbmblbidcmmaaGreat
