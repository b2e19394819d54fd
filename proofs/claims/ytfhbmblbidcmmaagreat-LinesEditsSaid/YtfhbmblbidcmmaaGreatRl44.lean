/-
  Walks and plain laws that the lines of texts lean on. No condition (part 44)
-/
import Derived.Test.YtfhbmblbidcmmaaGreatRl40
import Derived.Test.YtfhbmblbidcmmaaGreatRl29
import Derived.Test.YtfhbmblbidcmmaaGreatRl43
import Derived.Test.YtfhbmblbidcmmaaGreatRl7
import Derived.Test.YtfhbmblbidcmmaaGreatRl3
import Derived.Lib.Bytealg
import Derived.Lib.Bytes
import Derived.Deep.DrawnRows
import Derived.Deep.RegionHeld3
import Derived.IntWalk
import Derived.BigQuiet
set_option linter.unusedSimpArgs false
set_option linter.unusedVariables false
namespace Go.Proofs.YtfhbmblbidcmmaaGreat
set_option linter.unusedSimpArgs false
set_option linter.unusedVariables false
set_option linter.unusedSectionVars false
open Go.RowKit Go.Sl Go.Dk Go.Tr
open Go.Lru (ikey)
variable [TopN]
attribute [local go_sem ↓] Go.wp_at_zero Go.wp_at_succ
attribute [local go_sem] Go.Sl.cell_sat Go.Sl.frozen_sat
def nmO : ByteArray := ⟨#[111, 114, 105, 103, 105, 110, 97, 108]⟩
def nmT : ByteArray := ⟨#[116, 97, 105, 108]⟩
theorem nmO_named : Dk.named nmO = true := by decide +kernel
theorem nmT_named : Dk.named nmT = true := by decide +kernel
abbrev TLn : TypeId := 178
abbrev TIx : TypeId := 190
abbrev TTai : TypeId := 255
abbrev TCM : TypeId := 188
structure Lh where
 L : Nat
 X : Nat
 M : Nat
 A : Nat
 h : Th
def indexA (X M D : Nat) (n : Int) (x : Ix) : Assn := Sl.block X TIx [.pointer (some ⟨D, 0, none⟩), .string nmO, .int .i64 n, .int .i64 x.rd, .map (some M)] * mp ikey M (kvI x.cs)
def tailA (A D : Nat) (n : Int) : Assn := Sl.block A TTai [.pointer (some ⟨D, 0, none⟩), .int .i64 n]
def linesP (H : Lh) (O T : List UInt8) (s : TS) (x : Ix) : Assn :=
 Sl.block H.L TLn [.pointer (some ⟨H.h.t, 0, none⟩), .pointer (some ⟨H.X, 0, none⟩), .pointer (some ⟨H.A, 0, none⟩)] * (indexA H.X H.M H.h.D O.length x * (tailA H.A H.h.D T.length * treeP H.h s))
def FileIs (d : Dk) (nm : ByteArray) (b : List UInt8) : Prop := ∃ f, d.get nm = some f ∧ f.now = b
structure LnI (O T : List UInt8) (s : TS) (x : Ix) : Prop where
 inv : TInv true s
 ix : IxOk O x
 fo : FileIs s.ck.d nmO O
 ft : FileIs s.ck.d nmT T
 nm : nmO ≠ s.ck.nm ∧ nmT ≠ s.ck.nm
 lo : O.length ≤ 1048576
 lt : T.length ≤ 1048576
theorem LnI.at {O T : List UInt8} {s : TS} {x x' : Ix} (h : LnI O T s x) (k : IxOk O x') : LnI O T s x' := ⟨h.inv, k, h.fo, h.ft, h.nm, h.lo, h.lt⟩
theorem disk_in {h : Th} {s : TS} {F : Assn} {w : World} (hs : Sat (treeP h s * F) w) : ∃ G : Assn, Sat (diskP h.D s.ck.d * (G * F)) w ∧ ∀ (F' : Assn) (w' : World), Sat (diskP h.D s.ck.d * (G * F')) w' → Sat (treeP h s * F') w' := by
 obtain ⟨hi, h1⟩ := tree_parts hs
 obtain ⟨L, PM, ps, h2, h3⟩ := Sat.cache_open h1
 refine ⟨coreC h.C L h.D PM s.ck * (lruI L s.ck.cap s.ck.its * (mp ikey PM (ps.map kvP) * (pagesA ps * (spaceP h.S s.sp * Sl.block h.t TTr [.pointer (some ⟨h.C, 0, none⟩), .pointer (some ⟨h.S, 0, none⟩)])))), h3.eq (by unfold cacheA; ac_rfl), fun F' w' h4 => ?_⟩
 refine tree_join hi (Sat.cache_shut (L := L) (PM := PM) h2 (h4.eq ?_))
 unfold cacheA
 ac_rfl
theorem file_read (h : Th) (s : TS) (nm : ByteArray) (b : List UInt8) (k n : Nat) (F : Assn) (w : World) (hs : Sat (treeP h s * F) w) (hI : TInv true s) (hf : FileIs s.ck.d nm b) (hn : Dk.named nm = true) (hk : k + n ≤ b.length) :
 Calls Tryz.prog 49 #[.pointer (some ⟨h.D, 0, none⟩), .string nm, .int .i64 (k : Int), .int .i64 (n : Int)] w fun e w' => ∃ v, e = .returned (.tuple #[v, .int .i64 0]) ∧ Sat (rw TB 1 v (bys ((b.drop k).take n)) * (treeP h s * F)) w' := by
 obtain ⟨G, h1, h2⟩ := disk_in hs
 have hok := hI.ts.ok.dk
 obtain ⟨f, f1, f2⟩ := hf
 have hsz : nm.size ≤ 9223372036854775807 := by
  unfold Dk.named at hn
  simp only [Bool.and_eq_true, decide_eq_true_eq] at hn
  omega
 have hr : s.ck.d.read nm k n = (0, (b.drop k).take n) := by
  have hm : s.ck.d.may nm true = 0 := by
   unfold Dk.may
   rw [if_neg (by simp [hn]), hI.good.fine.down, f1]
   simp
  unfold Dk.read
  rw [if_neg (by simp [hm]), f1]
  simp only [Option.getD_some, f2]
  rw [if_neg (by omega)]
  simp
 refine (read_any h.D s.ck.d nm k n _ w h1 hsz (fun p hp => (hok.sz p hp).1)).mono fun e w' hx => ?_
 obtain ⟨v, e1, e2⟩ := hx
 rw [hr] at e1 e2
 exact ⟨v, e1, (h2 (rw TB 1 v (bys ((b.drop k).take n)) * F) w' (e2.eq (by ac_rfl))).eq (by ac_rfl)⟩
end Go.Proofs.YtfhbmblbidcmmaaGreat
namespace Go.Proofs.YtfhbmblbidcmmaaGreat
set_option linter.unusedSimpArgs false
set_option linter.unusedVariables false
set_option linter.unusedSectionVars false
open Go.RowKit Go.Sl Go.Dk Go.Tr
open Go.Lru (ikey)
variable [TopN]
attribute [local go_sem ↓] Go.wp_at_zero Go.wp_at_succ
attribute [local go_sem] Go.Sl.cell_sat Go.Sl.frozen_sat
theorem count_ends (l : List UInt8) : Go.Lib.countByte (Go.Lib.bytesOf (l.map fun x => (x.toNat : Int))) (10 : Int).toNat.toUInt8 = endsC l := by
 have e : Go.Lib.bytesOf (l.map fun x => (x.toNat : Int)) = l := by
  unfold Go.Lib.bytesOf
  rw [List.map_map]
  exact List.map_id'' (fun x => by simp) l
 rw [e]
 rfl
set_option maxRecDepth 100000 in
set_option maxHeartbeats 1600000 in
theorem eolCount_any (v : Value) (l : List UInt8) (F : Assn) (w : World) (hs : Sat (rw TB 1 v (bys l) * F) w) :
 Calls Tryz.prog 142 #[v] w fun e w' => e = .returned (.int .i64 (endsC l : Nat)) ∧ Sat (rw TB 1 v (bys l) * F) w' := by
 have hq := hs
 rcases hs.rw_open with ⟨h1, h2, h3⟩ | ⟨g, n, cap, sp, h1, h2, h3, h4, h5, h6⟩
 · have hl : l = [] := by simpa [bys] using h2
   subst hl h1
   haveI := hq.i
   clear hs hq h2 h3
   go_enter Tryz.func142, Tryz.ntmps142
   go_wp2_with fail
   refine Calls.mono (Any.bytes_Count_one_nil Tryz.laysSlB13 w.heap.size 0 1 10 _ (cell_sat _ _ _)) ?_
   rintro e w' ⟨rfl, rfl⟩
   go_wp2
   go_ret
   exact ⟨rfl, keep2 _ _⟩
 · rw [bys_len, Nat.mul_one] at h2
   subst h2 h1
   have hat : ∀ i, i < l.length → ∀ w1 : World, Sat (rw TB 1 (.slice (some ⟨g, 0, none⟩) l.length cap) (bys l) * (Sl.block w.heap.size TB [.int .u8 10] * F)) w1 → w1.cell? ((⟨g, 0, none⟩ : Addr).add i) = some (.int .u8 ((l.map fun x => (x.toNat : Int)).getD i 0)) := by
    intro i hi w1 q1
    obtain ⟨b, o, e1, e2⟩ := (Reads.rw _ _ q1).at (q := i) (x := l[i]) (List.getElem?_eq_getElem hi)
    cases e1
    rw [List.getD_eq_getElem?_getD, List.getElem?_map, List.getElem?_eq_getElem hi, show ((⟨g, 0, none⟩ : Addr).add i) = ⟨g, 0 + i, none⟩ by (unfold Addr.add; split <;> simp_all)]
    exact e2
   haveI := hq.i
   clear hs hq h3 h4 h5 h6
   go_enter Tryz.func142, Tryz.ntmps142
   go_wp2_with fail
   have q1 : Sat (rw TB 1 (.slice (some ⟨g, 0, none⟩) l.length cap) (bys l) * (Sl.block w.heap.size TB [.int .u8 10] * F)) (w.alloc (.cells #[.int .u8 10] TB)) := satI_eq (by ac_rfl)
   refine Calls.mono (Any.bytes_Count_one_at Tryz.laysSlB13 ⟨g, 0, none⟩ l.length cap w.heap.size 0 1 (l.map fun x => (x.toNat : Int)) 10 _ (by simp) (fun i hi => hat i hi _ q1) (cell_sat _ _ _)) ?_
   rintro e w' ⟨rfl, rfl⟩
   rw [count_ends]
   clear hat
   go_wp2
   go_ret
   exact ⟨rfl, keep2 _ _⟩
instance indexC0 (X M D : Nat) (n : Int) (x : Ix) : HasC (indexA X M D n x) X 0 (.pointer (some ⟨D, 0, none⟩)) := by unfold indexA; infer_instance
instance indexC1 (X M D : Nat) (n : Int) (x : Ix) : HasC (indexA X M D n x) X 1 (.string nmO) := by unfold indexA; infer_instance
instance indexC2 (X M D : Nat) (n : Int) (x : Ix) : HasC (indexA X M D n x) X 2 (.int .i64 n) := by unfold indexA; infer_instance
instance indexC3 (X M D : Nat) (n : Int) (x : Ix) : HasC (indexA X M D n x) X 3 (.int .i64 x.rd) := by unfold indexA; infer_instance
instance indexC4 (X M D : Nat) (n : Int) (x : Ix) : HasC (indexA X M D n x) X 4 (.map (some M)) := by unfold indexA; infer_instance
instance indexU3 (X M D : Nat) (n : Int) (x : Ix) (r : Int) : Upd (indexA X M D n x) X 3 (.int .i64 r) (indexA X M D n ⟨r, x.cs⟩) := by
 show Upd (_ * _) _ _ _ (Sl.block X TIx ([.pointer (some ⟨D, 0, none⟩), .string nmO, .int .i64 n, .int .i64 x.rd, .map (some M)].set 3 (.int .i64 r)) * mp ikey M (kvI x.cs))
 infer_instance
instance indexM (X M D : Nat) (n : Int) (x : Ix) : HasM (indexA X M D n x) M ikey (kvI x.cs) := by unfold indexA; infer_instance
instance indexUM (X M D : Nat) (n : Int) (x : Ix) (k v : Int) : UpdM (indexA X M D n x) M ikey (mput k (.int .i64 v) (kvI x.cs)) (indexA X M D n ⟨x.rd, iput k v x.cs⟩) := by
 rw [mput_kvI]
 unfold indexA
 infer_instance
def ixRead (x : Ix) (a b : Nat) : Ix := ⟨wrI (x.rd + ((b : Nat) - (a : Nat) : Int)), x.cs⟩
set_option maxRecDepth 100000 in
set_option maxHeartbeats 1600000 in
theorem look_any (X M : Nat) (h : Th) (s : TS) (O : List UInt8) (x : Ix) (a b : Nat) (F : Assn) (w : World) (hs : Sat (indexA X M h.D O.length x * (treeP h s * F)) w) (hI : TInv true s) (hf : FileIs s.ck.d nmO O) (hab : a ≤ b) (hb : b ≤ O.length) (hO : O.length ≤ 1048576) :
 Calls Tryz.prog 167 #[.pointer (some ⟨X, 0, none⟩), .int .i64 (a : Int), .int .i64 (b : Int)] w fun e w' => e = .returned (.tuple #[.int .i64 (endsC (cutB O a b) : Nat), .int .i64 0]) ∧ Sat (indexA X M h.D O.length (ixRead x a b) * (treeP h s * F)) w' := by
 have hr := fun G w q => file_read h s nmO O a (b - a) G w q hI hf nmO_named (by omega)
 have hlen : ((O.drop a).take (b - a)).length = b - a := by rw [List.length_take, List.length_drop]; omega
 have hsub : ((b - a : Nat) : Int) = (b : Int) - (a : Int) := by omega
 have hcut : (O.drop a).take (b - a) = cutB O a b := rfl
 have hwn : IntKind.i64.wrap ((b : Int) - (a : Int)) = (b : Int) - (a : Int) := IntWalk.i64_in _ (by omega)
 rw [hcut] at hr hlen
 rw [hsub] at hr
 obtain ⟨l, hl⟩ : ∃ l, cutB O a b = l := ⟨_, rfl⟩
 rw [hl] at hr hlen ⊢
 have hst : (b : Int) - (a : Int) = (l.length : Int) := by omega
 have HX : Aside (ixRead x a b = ⟨wrap64 (x.rd + (l.length : Nat)), x.cs⟩) := (by unfold ixRead wrI wrap64; rw [← hst, IntKind.wrap_i64] : _ = _)
 rw [HX.out]
 haveI := hs.i
 clear hs hsub hcut hl hlen hst
 go_enter Tryz.func167, Tryz.ntmps167
 go_wp2_with fail
 go_region_held3 (fun w' => w'.cell? ⟨X, 0, none⟩ = some (.pointer (some ⟨h.D, 0, none⟩)) ∧ w'.cell? ⟨X, 1, none⟩ = some (.string nmO)) (first | exact ⟨cell_sat _ _ _, cell_sat _ _ _⟩) (first
  | (go_at_call 49; refine (hr _ _ (takeI (treeP h s))).mono ?_; rintro e w1 ⟨v, rfl, q1⟩; obtain ⟨va, vc, rfl, hv1, hv2⟩ := rw_vb q1; haveI := q1.i))
 all_goals
  go_wp2_with fail
  refine (eolCount_any _ l _ _ (takeI (rw TB 1 (.slice va l.length vc) (bys l)))).mono ?_
  rintro e w2 ⟨rfl, q2⟩
  haveI := q2.i
  go_wp2
  go_ret2
  exact ⟨rfl, keep3 _ _ _⟩
end Go.Proofs.YtfhbmblbidcmmaaGreat
namespace Go.Tr
set_option linter.unusedSimpArgs false
set_option linter.unusedVariables false
variable {O T : List UInt8}
def ixC (O : List UInt8) (x : Ix) (a b : Nat) : Ix := (ixCount O (b - a) x a b).2
theorem ixC_done {x : Ix} {a b : Nat} (h : b ≤ a) : ixC O x a b = x := by
 unfold ixC
 rw [show b - a = 0 by omega]
 rfl
theorem ixC_step {x : Ix} {a b : Nat} (ok : IxOk O x) (h : a < b) (hb : b ≤ O.length) : ixC O x a b = ixC O (ixStep O x a b).2.2 (ixStep O x a b).2.1 b := by
 obtain ⟨s1, s2, s3, s4⟩ := ixStep_ok ok h hb
 unfold ixC
 obtain ⟨f, hf⟩ : ∃ f, b - a = f + 1 := ⟨b - a - 1, by omega⟩
 rw [hf]
 conv => lhs; unfold ixCount
 rw [if_pos h]
 simp only
 rw [ixCount_fuel f (b - (ixStep O x a b).2.1) s4 s2 hb (by omega) (by omega)]
theorem ixC_ok {x : Ix} {a b : Nat} (ok : IxOk O x) (h : a ≤ b) (hb : b ≤ O.length) : IxOk O (ixC O x a b) := (ixCount_ok _ ok h hb (Nat.le_refl _)).2
theorem ixStep_known {x : Ix} {a b : Nat} {k : Int} (h1 : a = a / 64 * 64) (h2 : chEnd O a ≤ b) (h3 : iget (a / 64 : Nat) x.cs = some k) : ixStep O x a b = (k, chEnd O a, x) := by
 unfold ixStep
 have : chWhole O a b = true := by unfold chWhole; rw [decide_eq_true_eq]; exact ⟨h1, h2⟩
 rw [this, h3]
theorem ixStep_new {x : Ix} {a b : Nat} (h1 : a = a / 64 * 64) (h2 : chEnd O a ≤ b) (h3 : iget (a / 64 : Nat) x.cs = none) : ixStep O x a b = (((endsC (cutB O a (chEnd O a)) : Nat) : Int), chEnd O a, ⟨wrI (x.rd + ((chEnd O a : Nat) - (a : Nat) : Int)), iput (a / 64 : Nat) ((endsC (cutB O a (chEnd O a)) : Nat) : Int) x.cs⟩) := by
 unfold ixStep
 have : chWhole O a b = true := by unfold chWhole; rw [decide_eq_true_eq]; exact ⟨h1, h2⟩
 rw [this, h3]
 simp only [show min (chEnd O a) b = chEnd O a by omega]
theorem ixStep_part {x : Ix} {a b : Nat} (h : ¬ (a = a / 64 * 64 ∧ chEnd O a ≤ b)) : ixStep O x a b = (((endsC (cutB O a (min (chEnd O a) b)) : Nat) : Int), min (chEnd O a) b, ⟨wrI (x.rd + ((min (chEnd O a) b : Nat) - (a : Nat) : Int)), x.cs⟩) := by
 unfold ixStep
 have : chWhole O a b = false := by unfold chWhole; rw [decide_eq_false_iff_not]; exact h
 rw [this]
theorem chEnd_gt {a : Nat} (h : a < O.length) : a < chEnd O a ∧ chEnd O a ≤ O.length := by
 unfold chEnd
 omega
def inIx (O : List UInt8) (x : Ix) (e : Ent) (a b : Nat) : Ix := if e.src = 0 then ixC O x (e.pos.toNat + a) (e.pos.toNat + b) else x
theorem inIx_ok {x : Ix} {e : Ent} {a b : Nat} (ok : IxOk O x) (hr : RtE O T e) (h1 : a ≤ b) (h2 : (b : Int) ≤ e.len) : IxOk O (inIx O x e a b) := by
 unfold inIx
 split
 · rename_i hs
   have p1 := hr.pos
   have p3 := hr.inF
   rw [hs] at p3
   have p4 : e.pos + e.len ≤ (O.length : Int) := p3
   exact ixC_ok ok (by omega) (by omega)
 · exact ok
theorem inIx_all {x : Ix} {e : Ent} (hl : e.lines < 0) (hr : RtE O T e) : inIx O x e 0 e.len.toNat = ixEnt O x e := by
 unfold inIx ixEnt ixC
 by_cases h : e.src = 0
 · rw [if_pos h, if_pos ⟨hl, h⟩, Nat.add_zero, show e.pos.toNat + e.len.toNat - e.pos.toNat = e.len.toNat by omega]
 · rw [if_neg h, if_neg fun k => h k.2]
theorem piece_cutB {e : Ent} {a b : Nat} (h1 : a ≤ b) (h2 : (b : Int) ≤ e.len) : ((pieceE O T e).drop a).take (b - a) = cutB (srcF O T e.src) (e.pos.toNat + a) (e.pos.toNat + b) := by
 unfold pieceE cutB
 rw [List.drop_take, List.take_take, List.drop_drop, show min (b - a) (e.len.toNat - a) = b - a by omega, show e.pos.toNat + b - (e.pos.toNat + a) = b - a by omega]
end Go.Tr
namespace Go.Proofs.YtfhbmblbidcmmaaGreat
set_option linter.unusedSimpArgs false
set_option linter.unusedVariables false
set_option linter.unusedSectionVars false
open Go.RowKit Go.Sl Go.Dk Go.Tr
open Go.Lru (ikey)
variable [TopN]
attribute [local go_sem ↓] Go.wp_at_zero Go.wp_at_succ
attribute [local go_sem] Go.Sl.cell_sat Go.Sl.frozen_sat
instance mapCM : MapT Tryz.prog TCM Int ikey (.int .i64 0) := ⟨3, 3, keyOk3, Tryz.underlying188, fun w => by kernel_rfl⟩
theorem look_CM (w : World) (M : Nat) (k : Int) {A : Assn} {ms : List (Int × Value)} [h : SatI A w] [h2 : HasM A M ikey ms] : (Instr.lookup TCM (.map (some M)) (.int .i64 k) true).run Tryz.prog w = .ok (.tuple #[(mget k ms).getD (.int .i64 0), .bool (mget k ms).isSome]) w := lookup2_run mapCM w M k
theorem put_CM (w : World) (M : Nat) (k : Int) (v : Value) {A : Assn} {ms : List (Int × Value)} [h : SatI A w] [h2 : HasM A M ikey ms] : (Instr.mapUpdate TCM (.map (some M)) (.int .i64 k) v).run Tryz.prog w = .ok () (putW Tryz.prog TCM M (ikey k) v w) := put_run mapCM w M k v
instance {w : World} {M : Nat} {k : Int} {v : Value} {A A' : Assn} {ms : List (Int × Value)} [h : SatI A w] [h2 : HasM A M ikey ms] [h3 : UpdM A M ikey (mput k v ms) A'] : SatI A' (putW Tryz.prog TCM M (ikey k) v w) := put_sat mapCM
attribute [local go_sem] look_CM put_CM
set_option maxRecDepth 100000 in
set_option maxHeartbeats 3200000 in
theorem countX_any (X M : Nat) (h : Th) (s : TS) (O : List UInt8) (x : Ix) (a b : Nat) (F : Assn) (w : World) (hs : Sat (indexA X M h.D O.length x * (treeP h s * F)) w) (hI : TInv true s) (hf : FileIs s.ck.d nmO O) (ok : IxOk O x) (hab : a ≤ b) (hb : b ≤ O.length) (hO : O.length ≤ 1048576) :
 Calls Tryz.prog 140 #[.pointer (some ⟨X, 0, none⟩), .int .i64 (a : Int), .int .i64 (b : Int)] w fun e w' => e = .returned (.tuple #[.int .i64 (endsC (cutB O a b) : Nat), .int .i64 0]) ∧ Sat (indexA X M h.D O.length (ixC O x a b) * (treeP h s * F)) w' := by
 have hlook := fun x p q F w hs hpq hq => look_any X M h s O x p q F w hs hI hf hpq hq hO
 have HK : Aside (IxOk O x ∧ a ≤ b) := ⟨ok, hab⟩
 obtain ⟨xF, hxF⟩ : ∃ xF, ixC O x a b = xF := ⟨_, rfl⟩
 obtain ⟨R, hR⟩ : ∃ R, endsC (cutB O a b) = R := ⟨_, rfl⟩
 rw [hxF, hR]
 have HF : Aside (ixC O x a b = xF ∧ endsC (cutB O a b) = R) := ⟨hxF, hR⟩
 obtain ⟨no, hno⟩ : ∃ no, O.length = no := ⟨_, rfl⟩
 have HNO : Aside (O.length = no) := hno
 rw [hno] at hlook hs hb hO ⊢
 have g1 : ¬ (a : Int) < 0 := by omega
 have g2 : ¬ (b : Int) < (a : Int) := by omega
 have g3 : ¬ (no : Int) < (b : Int) := by omega
 clear ok hxF hR hno
 haveI := hs.i
 go_enter Tryz.func140, Tryz.ntmps140
 go_wp2
 go_loopg [1, 8] (b - a) (fun g t1 t8 wr => ∃ (a1 n1 : Nat) (x1 : Ix), t1 = .int .i64 a1 ∧ t8 = .int .i64 n1 ∧ a ≤ a1 ∧ a1 ≤ b ∧ n1 ≤ a1 ∧ Aside (g = b - a1 ∧ IxOk O x1 ∧ n1 = endsC (cutB O a a1) ∧ ixC O x1 a1 b = xF) ∧ Sat (indexA X M h.D no x1 * (treeP h s * F)) wr)
 case atStart => exact ⟨a, 0, x, rfl, rfl, by omega, hab, by omega, ⟨rfl, HK.out.1, by unfold cutB; simp [endsC], HF.out.1⟩, hs⟩
 case round =>
  obtain ⟨a1, n1, x1, rfl, rfl, ha1, ha2, hn1, J, hsr⟩ := hrel
  clear hs this
  haveI := hsr.i
  by_cases hlt : a1 < b
  · have hlt' : (a1 : Int) < (b : Int) := by omega
    obtain ⟨e1, he1⟩ : ∃ e1, chEnd O a1 = e1 := ⟨_, rfl⟩
    obtain ⟨c1, hc1⟩ : ∃ c1, a1 / 64 = c1 := ⟨_, rfl⟩
    have hg := chEnd_gt (O := O) (a := a1) (by have := HNO.out; omega)
    have hdef : chEnd O a1 = min ((a1 / 64 + 1) * 64) O.length := rfl
    rw [he1, HNO.out] at hg
    rw [he1, hc1, HNO.out] at hdef
    have q1 : ((a1 : Int)).tdiv 64 = (c1 : Int) := by rw [Int.tdiv_eq_ediv_of_nonneg (by omega)]; omega
    have q2 : IntKind.i64.wrap ((c1 : Int) + 1) = (c1 : Int) + 1 := IntWalk.i64_in _ (by omega)
    have q3 : IntKind.i64.wrap (((c1 : Int) + 1) * 64) = ((c1 : Int) + 1) * 64 := IntWalk.i64_in _ (by omega)
    have q4 : IntKind.i64.wrap ((c1 : Int) * 64) = (c1 : Int) * 64 := IntWalk.i64_in _ (by omega)
    have HC : Aside (chEnd O a1 = e1 ∧ a1 / 64 = c1) := ⟨he1, hc1⟩
    have q0 : IntKind.i64.wrap (c1 : Int) = (c1 : Int) := IntWalk.i64_in _ (by omega)
    have hmn : min (((c1 : Int) + 1) * 64) (no : Int) = (e1 : Int) := by omega
    have hst := ixC_step J.out.2.1 hlt (by rw [HNO.out]; exact hb)
    have hsok := ixStep_ok J.out.2.1 hlt (by rw [HNO.out]; exact hb)
    have hq : IntKind.i64.wrap ((n1 : Int) + endsC (cutB O a1 (ixStep O x1 a1 b).2.1)) = (n1 : Int) + endsC (cutB O a1 (ixStep O x1 a1 b).2.1) := by
     have h1 := endsC_le (cutB O a1 (ixStep O x1 a1 b).2.1)
     have h2 := cutB_len (O := O) (a := a1) (b := (ixStep O x1 a1 b).2.1) (by have := hsok.2.1; have := HNO.out; omega)
     have h3 := hsok.2.1
     exact IntWalk.i64_in _ (by omega)
    have HN : Aside (n1 + endsC (cutB O a1 (ixStep O x1 a1 b).2.1) = endsC (cutB O a (ixStep O x1 a1 b).2.1) ∧ n1 + endsC (cutB O a1 (ixStep O x1 a1 b).2.1) ≤ (ixStep O x1 a1 b).2.1) := by
     have h1 := endsC_le (cutB O a1 (ixStep O x1 a1 b).2.1)
     have h2 := cutB_len (O := O) (a := a1) (b := (ixStep O x1 a1 b).2.1) (by have := hsok.2.1; have := HNO.out; omega)
     have h3 := hsok.1
     refine ⟨?_, by omega⟩
     rw [J.out.2.2.1, cutB_app O ha1 (Nat.le_of_lt h3), endsC_app]
    have HST : Aside (ixC O x1 a1 b = ixC O (ixStep O x1 a1 b).2.2 (ixStep O x1 a1 b).2.1 b ∧ IxOk O (ixStep O x1 a1 b).2.2 ∧ (ixStep O x1 a1 b).1 = endsC (cutB O a1 (ixStep O x1 a1 b).2.1)) := ⟨hst, hsok.2.2.2, hsok.2.2.1⟩
    clear he1 hc1 hst hsok hdef
    by_cases hwh : a1 = c1 * 64 ∧ e1 ≤ b
    · have b1 : ((a1 : Int) == (c1 : Int) * 64) = true := by simp; omega
      have b2 : (e1 : Int) ≤ (b : Int) := by omega
      cases hgt : iget (c1 : Int) x1.cs with
      | some k =>
        have hS := ixStep_known (O := O) (x := x1) (a := a1) (b := b) (k := k) (by rw [HC.out.2]; exact hwh.1) (by rw [HC.out.1]; exact hwh.2) (by rw [HC.out.2]; exact hgt)
        rw [HC.out.1] at hS
        have hk : k = endsC (cutB O a1 e1) := by
         have := HST.out.2.2
         rw [hS] at this
         exact this
        rw [hS] at hq HN HST
        simp only at hq HN HST
        have hmg : mget (c1 : Int) (kvI x1.cs) = some (.int .i64 k) := by rw [mget_kvI, hgt]; rfl
        obtain ⟨r, hr⟩ : ∃ r, endsC (cutB O a1 e1) = r := ⟨_, rfl⟩
        rw [hr] at hk hq HN
        subst hk
        clear hS hgt hlook
        go_wp2
        go_roundg (b - e1)
        case measure => have := J.out.1; omega
        case rel => exact ⟨e1, n1 + r, x1, rfl, by go_num, by omega, hwh.2, HN.out.2, ⟨rfl, HST.out.2.1, HN.out.1, by rw [← HST.out.1]; exact J.out.2.2.2⟩, hsr⟩
      | none =>
        have hS := ixStep_new (O := O) (x := x1) (a := a1) (b := b) (by rw [HC.out.2]; exact hwh.1) (by rw [HC.out.1]; exact hwh.2) (by rw [HC.out.2]; exact hgt)
        rw [HC.out.1, HC.out.2] at hS
        rw [hS] at hq HN HST
        simp only at hq HN HST
        have hmg : mget (c1 : Int) (kvI x1.cs) = none := by rw [mget_kvI, hgt]; rfl
        have hmb : min (e1 : Int) (b : Int) = (e1 : Int) := by omega
        have hlk := fun F w q => hlook x1 a1 e1 F w q (by omega) (by omega)
        rw [show (a1 : Int) = (c1 : Int) * 64 by omega] at hlk
        obtain ⟨r, hr⟩ : ∃ r, endsC (cutB O a1 e1) = r := ⟨_, rfl⟩
        rw [hr] at hlk hq HN HST
        have e9 : (⟨wrI (x1.rd + ((e1 : Nat) - (a1 : Nat) : Int)), iput (c1 : Int) (r : Int) x1.cs⟩ : Ix) = ⟨(ixRead x1 a1 e1).rd, iput (c1 : Int) (r : Int) (ixRead x1 a1 e1).cs⟩ := rfl
        rw [e9] at HST
        clear hS hgt hlook hr e9
        go_wp2_with fail
        refine (hlk _ _ (takeI2 (indexA X M h.D no x1) (treeP h s))).mono ?_
        rintro e w4 ⟨rfl, q5⟩
        haveI := q5.i
        clear hlk hsr
        go_wp2
        go_roundg (b - e1)
        case measure => have := J.out.1; omega
        case rel => exact ⟨e1, n1 + r, _, rfl, by go_num, by omega, hwh.2, HN.out.2, ⟨rfl, HST.out.2.1, HN.out.1, by rw [← HST.out.1]; exact J.out.2.2.2⟩, satI⟩
    · have hS := ixStep_part (O := O) (x := x1) (a := a1) (b := b) (by rw [HC.out.2, HC.out.1]; exact hwh)
      obtain ⟨m1, hm1⟩ : ∃ m1, min e1 b = m1 := ⟨_, rfl⟩
      rw [HC.out.1, hm1] at hS
      rw [hS] at hq HN HST
      simp only at hq HN HST
      obtain ⟨og, hog⟩ : ∃ og, mget (c1 : Int) (kvI x1.cs) = og := ⟨_, rfl⟩
      have hmb : min (e1 : Int) (b : Int) = (m1 : Int) := by omega
      have hlk := fun F w q => hlook x1 a1 m1 F w q (by omega) (by omega)
      obtain ⟨r, hr⟩ : ∃ r, endsC (cutB O a1 m1) = r := ⟨_, rfl⟩
      rw [hr] at hlk hq HN
      have e9 : (⟨wrI (x1.rd + ((m1 : Nat) - (a1 : Nat) : Int)), x1.cs⟩ : Ix) = ixRead x1 a1 m1 := rfl
      rw [e9] at HST
      have hle : m1 ≤ b ∧ a1 < m1 := by omega
      clear hS hlook hr hm1 e9
      by_cases h1 : a1 = c1 * 64
      · have b1 : ((a1 : Int) == (c1 : Int) * 64) = true := by simp; omega
        have b2 : ¬ (e1 : Int) ≤ (b : Int) := by omega
        rw [show (a1 : Int) = (c1 : Int) * 64 by omega] at hlk
        go_wp2_with fail
        refine (hlk _ _ (takeI2 (indexA X M h.D no x1) (treeP h s))).mono ?_
        rintro e w4 ⟨rfl, q5⟩
        haveI := q5.i
        clear hlk hsr
        go_wp2
        go_roundg (b - m1)
        case measure => have := J.out.1; omega
        case rel => exact ⟨m1, n1 + r, _, rfl, by go_num, by omega, hle.1, HN.out.2, ⟨rfl, HST.out.2.1, HN.out.1, by rw [← HST.out.1]; exact J.out.2.2.2⟩, satI⟩
      · have b1 : ((a1 : Int) == (c1 : Int) * 64) = false := by simp; omega
        go_wp2_with fail
        refine (hlk _ _ (takeI2 (indexA X M h.D no x1) (treeP h s))).mono ?_
        rintro e w4 ⟨rfl, q5⟩
        haveI := q5.i
        clear hlk hsr
        go_wp2
        go_roundg (b - m1)
        case measure => have := J.out.1; omega
        case rel => exact ⟨m1, n1 + r, _, rfl, by go_num, by omega, hle.1, HN.out.2, ⟨rfl, HST.out.2.1, HN.out.1, by rw [← HST.out.1]; exact J.out.2.2.2⟩, satI⟩
  · have hlt' : ¬ (a1 : Int) < (b : Int) := by omega
    obtain rfl : a1 = b := by omega
    have HE : Aside (x1 = xF ∧ n1 = R) := ⟨by rw [← J.out.2.2.2, ixC_done (Nat.le_refl _)], by rw [J.out.2.2.1]; exact HF.out.2⟩
    obtain ⟨rfl, rfl⟩ := HE.out
    clear J HE
    go_wp2
    go_ret2
    exact ⟨rfl, hsr⟩
end Go.Proofs.YtfhbmblbidcmmaaGreat
namespace Go.Proofs.YtfhbmblbidcmmaaGreat
set_option linter.unusedSimpArgs false
set_option linter.unusedVariables false
set_option linter.unusedSectionVars false
open Go.RowKit Go.Sl Go.Dk Go.Tr
open Go.Lru (ikey)
variable [TopN]
attribute [local go_sem ↓] Go.wp_at_zero Go.wp_at_succ
attribute [local go_sem] Go.Sl.cell_sat Go.Sl.frozen_sat
instance tailC0 (A D : Nat) (n : Int) : HasC (tailA A D n) A 0 (.pointer (some ⟨D, 0, none⟩)) := by unfold tailA; infer_instance
instance tailC1 (A D : Nat) (n : Int) : HasC (tailA A D n) A 1 (.int .i64 n) := by unfold tailA; infer_instance
set_option maxRecDepth 100000 in
set_option maxHeartbeats 1600000 in
theorem tailRead_any (A : Nat) (h : Th) (s : TS) (T : List UInt8) (k n : Nat) (F : Assn) (w : World) (hs : Sat (tailA A h.D T.length * (treeP h s * F)) w) (hI : TInv true s) (hf : FileIs s.ck.d nmT T) (hk : k + n ≤ T.length) (hT : T.length ≤ 1048576) :
 Calls Tryz.prog 141 #[.pointer (some ⟨A, 0, none⟩), .int .i64 (k : Int), .int .i64 (n : Int)] w fun e w' => ∃ v, e = .returned (.tuple #[v, .int .i64 0]) ∧ Sat (rw TB 1 v (bys ((T.drop k).take n)) * (tailA A h.D T.length * (treeP h s * F))) w' := by
 have hr := fun G w q => file_read h s nmT T k n G w q hI hf nmT_named hk
 unfold nmT at hr
 obtain ⟨nt, hnt⟩ : ∃ nt, T.length = nt := ⟨_, rfl⟩
 rw [hnt] at hk hT hs ⊢
 have g1 : ¬ (k : Int) < 0 := by omega
 have g2 : ¬ (n : Int) < 0 := by omega
 have g3 : ¬ (nt : Int) < (k : Int) := by omega
 have hw1 : IntKind.i64.wrap ((nt : Int) - (k : Int)) = (nt : Int) - (k : Int) := IntWalk.i64_in _ (by omega)
 have g4 : ¬ (nt : Int) - (k : Int) < (n : Int) := by omega
 haveI := hs.i
 by_cases h0 : n = 0
 · subst h0
   clear hr
   go_enter Tryz.func141, Tryz.ntmps141
   go_wp2
   go_ret2
   exact ⟨_, rfl, by simpa [bys] using hs.rw_nil (e := TB) (s := 1)⟩
 · have h1 : ¬ (n : Int) = 0 := by omega
   have h2 : ((n : Int) == 0) = false := by simp; omega
   clear hs
   go_enter Tryz.func141, Tryz.ntmps141
   go_wp2_with fail
   with_reducible refine Calls.mono (hr _ _ (takeI (treeP h s))) ?_
   rintro e w1 ⟨v, rfl, q1⟩
   haveI := q1.i
   clear hr
   go_wp2
   go_ret2
   exact ⟨v, rfl, keep3 _ _ _⟩
abbrev scrapV (e : Ent) : Value := .agg #[.int .i64 e.src, .int .i64 e.pos, .int .i64 e.len]
instance linesC0 (H : Lh) (O T : List UInt8) (s : TS) (x : Ix) : HasC (linesP H O T s x) H.L 0 (.pointer (some ⟨H.h.t, 0, none⟩)) := by unfold linesP; infer_instance
instance linesC1 (H : Lh) (O T : List UInt8) (s : TS) (x : Ix) : HasC (linesP H O T s x) H.L 1 (.pointer (some ⟨H.X, 0, none⟩)) := by unfold linesP; infer_instance
instance linesC2 (H : Lh) (O T : List UInt8) (s : TS) (x : Ix) : HasC (linesP H O T s x) H.L 2 (.pointer (some ⟨H.A, 0, none⟩)) := by unfold linesP; infer_instance
theorem lines_ix (H : Lh) (O T : List UInt8) (s : TS) (x : Ix) (F : Assn) : linesP H O T s x * F = indexA H.X H.M H.h.D O.length x * (treeP H.h s * (Sl.block H.L TLn [.pointer (some ⟨H.h.t, 0, none⟩), .pointer (some ⟨H.X, 0, none⟩), .pointer (some ⟨H.A, 0, none⟩)] * (tailA H.A H.h.D T.length * F))) := by unfold linesP; ac_rfl
theorem lines_tl (H : Lh) (O T : List UInt8) (s : TS) (x : Ix) (F : Assn) : linesP H O T s x * F = tailA H.A H.h.D T.length * (treeP H.h s * (Sl.block H.L TLn [.pointer (some ⟨H.h.t, 0, none⟩), .pointer (some ⟨H.X, 0, none⟩), .pointer (some ⟨H.A, 0, none⟩)] * (indexA H.X H.M H.h.D O.length x * F))) := by unfold linesP; ac_rfl
theorem lines_tr (H : Lh) (O T : List UInt8) (s : TS) (x : Ix) (F : Assn) : linesP H O T s x * F = treeP H.h s * (Sl.block H.L TLn [.pointer (some ⟨H.h.t, 0, none⟩), .pointer (some ⟨H.X, 0, none⟩), .pointer (some ⟨H.A, 0, none⟩)] * (indexA H.X H.M H.h.D O.length x * (tailA H.A H.h.D T.length * F))) := by unfold linesP; ac_rfl
set_option maxRecDepth 100000 in
set_option maxHeartbeats 3200000 in
theorem in_orig (H : Lh) (O T : List UInt8) (s : TS) (x : Ix) (e : Ent) (p q : Nat) (F : Assn) (w : World) (hs : Sat (linesP H O T s x * F) w) (hI : LnI O T s x) (hr : RtE O T e) (hpq : p ≤ q) (hq : (q : Int) ≤ e.len) (hsrc : e.src = 0) :
 Calls Tryz.prog 89 #[.pointer (some ⟨H.L, 0, none⟩), scrapV e, .int .i64 (p : Int), .int .i64 (q : Int)] w fun en w' => en = .returned (.tuple #[.int .i64 (endsC (((pieceE O T e).drop p).take (q - p)) : Nat), .int .i64 0]) ∧ Sat (linesP H O T s (inIx O x e p q) * F) w' := by
 rw [piece_cutB hpq hq]
 have h1 := hr.pos
 have h3 := hr.inF
 rw [hsrc] at h3
 have h4 : e.pos + e.len ≤ (O.length : Int) := h3
 have hlo := hI.lo
 obtain ⟨k, hk⟩ : ∃ k : Nat, e.pos = k := ⟨e.pos.toNat, by omega⟩
 obtain ⟨src, pos, len, lines⟩ := e
 simp only at hsrc hk h4 hq h1 ⊢
 subst hsrc hk
 have hc := fun F w q' => countX_any H.X H.M H.h s O x (k + p) (k + q) F w q' hI.inv hI.fo hI.ix (by omega) (by omega) hI.lo
 have e1 : srcF O T 0 = O := rfl
 have e2 : inIx O x ⟨0, k, len, lines⟩ p q = ixC O x (k + p) (k + q) := by unfold inIx; rw [if_pos rfl, Int.toNat_natCast]
 rw [e1, e2, Int.toNat_natCast]
 obtain ⟨x2, hx2⟩ : ∃ x2, ixC O x (k + p) (k + q) = x2 := ⟨_, rfl⟩
 obtain ⟨R, hR⟩ : ∃ R, endsC (cutB O (k + p) (k + q)) = R := ⟨_, rfl⟩
 rw [hx2, hR] at hc ⊢
 rw [Int.natCast_add, Int.natCast_add] at hc
 have hw1 : IntKind.i64.wrap ((k : Int) + p) = (k : Int) + p := IntWalk.i64_in _ (by omega)
 have hw2 : IntKind.i64.wrap ((k : Int) + q) = (k : Int) + q := IntWalk.i64_in _ (by omega)
 have hs0 : Sat (linesP H O T s x * F) w := hs
 have hs2 := hs
 rw [lines_ix] at hs2
 haveI := hs2.i
 clear hs hx2 hR hI hr e1 e2 h3
 go_enter Tryz.func89, Tryz.ntmps89
 go_wp2_with fail
 go_region_held3 (fun w' => w'.cell? ⟨H.L, 1, none⟩ = some (.pointer (some ⟨H.X, 0, none⟩)) ∧ w'.cell? ⟨w.heap.size, 1, none⟩ = some (.int .i64 k)) (first | exact ⟨cell_sat _ _ _, cell_sat _ _ _⟩) (first
  | (go_at_call 140; refine (hc _ _ (takeI2 (indexA H.X H.M H.h.D O.length x) (treeP H.h s))).mono ?_; rintro e w1 ⟨rfl, q1⟩; haveI := q1.i))
 all_goals
  go_wp2
  go_ret2
  rw [lines_ix]
  exact ⟨rfl, keep5 _ _ _ _ _⟩
set_option maxRecDepth 100000 in
set_option maxHeartbeats 3200000 in
theorem in_tail (H : Lh) (O T : List UInt8) (s : TS) (x : Ix) (e : Ent) (p q : Nat) (F : Assn) (w : World) (hs : Sat (linesP H O T s x * F) w) (hI : LnI O T s x) (hr : RtE O T e) (hpq : p ≤ q) (hq : (q : Int) ≤ e.len) (hsrc : e.src ≠ 0) :
 Calls Tryz.prog 89 #[.pointer (some ⟨H.L, 0, none⟩), scrapV e, .int .i64 (p : Int), .int .i64 (q : Int)] w fun en w' => en = .returned (.tuple #[.int .i64 (endsC (((pieceE O T e).drop p).take (q - p)) : Nat), .int .i64 0]) ∧ Sat (linesP H O T s (inIx O x e p q) * F) w' := by
 rw [piece_cutB hpq hq]
 have h1 := hr.pos
 have h3 := hr.inF
 have e1 : srcF O T e.src = T := by unfold srcF; rw [if_neg hsrc]
 rw [e1] at h3 ⊢
 have hlo := hI.lt
 have e2 : inIx O x e p q = x := by unfold inIx; rw [if_neg hsrc]
 rw [e2]
 obtain ⟨k, hk⟩ : ∃ k : Nat, e.pos = k := ⟨e.pos.toNat, by omega⟩
 obtain ⟨src, pos, len, lines⟩ := e
 simp only at hsrc hk h3 hq h1 ⊢
 subst hk
 have hc := fun F w q' => tailRead_any H.A H.h s T (k + p) (q - p) F w q' hI.inv hI.ft (by omega) hI.lt
 rw [Int.toNat_natCast]
 have e3 : (T.drop (k + p)).take (q - p) = cutB T (k + p) (k + q) := by unfold cutB; rw [show k + q - (k + p) = q - p by omega]
 rw [e3] at hc
 obtain ⟨l, hl⟩ : ∃ l, cutB T (k + p) (k + q) = l := ⟨_, rfl⟩
 rw [hl] at hc ⊢
 rw [Int.natCast_add, Int.ofNat_sub hpq] at hc
 have hw1 : IntKind.i64.wrap ((k : Int) + p) = (k : Int) + p := IntWalk.i64_in _ (by omega)
 have hw2 : IntKind.i64.wrap ((q : Int) - p) = (q : Int) - p := IntWalk.i64_in _ (by omega)
 have hb : (src == 0) = false := by simpa using hsrc
 have hs2 := hs
 rw [lines_tl] at hs2
 haveI := hs2.i
 clear hs hl hI hr e1 e2 e3 h3 hsrc
 go_enter Tryz.func89, Tryz.ntmps89
 go_wp2_with fail
 go_region_held3 (fun w' => w'.cell? ⟨H.L, 2, none⟩ = some (.pointer (some ⟨H.A, 0, none⟩)) ∧ w'.cell? ⟨w.heap.size, 1, none⟩ = some (.int .i64 k)) (first | exact ⟨cell_sat _ _ _, cell_sat _ _ _⟩) (first
  | (go_at_call 141; refine (hc _ _ (takeI2 (tailA H.A H.h.D T.length) (treeP H.h s))).mono ?_; rintro e w1 ⟨v, rfl, q1⟩; obtain ⟨va, vc, rfl, hv1, hv2⟩ := rw_vb q1; haveI := q1.i))
 all_goals
  go_wp2_with fail
  refine (eolCount_any _ l _ _ (takeI (rw TB 1 (.slice va l.length vc) (bys l)))).mono ?_
  rintro e w2 ⟨rfl, q2⟩
  haveI := q2.i
  go_wp2
  go_ret2
  rw [lines_tl]
  exact ⟨rfl, keep5 _ _ _ _ _⟩
theorem in_any (H : Lh) (O T : List UInt8) (s : TS) (x : Ix) (e : Ent) (p q : Nat) (F : Assn) (w : World) (hs : Sat (linesP H O T s x * F) w) (hI : LnI O T s x) (hr : RtE O T e) (hpq : p ≤ q) (hq : (q : Int) ≤ e.len) :
 Calls Tryz.prog 89 #[.pointer (some ⟨H.L, 0, none⟩), scrapV e, .int .i64 (p : Int), .int .i64 (q : Int)] w fun en w' => en = .returned (.tuple #[.int .i64 (endsC (((pieceE O T e).drop p).take (q - p)) : Nat), .int .i64 0]) ∧ Sat (linesP H O T s (inIx O x e p q) * F) w' := by
 by_cases h : e.src = 0
 · exact in_orig H O T s x e p q F w hs hI hr hpq hq h
 · exact in_tail H O T s x e p q F w hs hI hr hpq hq h
end Go.Proofs.YtfhbmblbidcmmaaGreat
