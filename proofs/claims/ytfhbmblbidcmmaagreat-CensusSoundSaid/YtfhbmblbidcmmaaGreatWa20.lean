/-
  Versions are found sound just if they are in the words of the document. No condition. (part 20)
-/
import Derived.Test.YtfhbmblbidcmmaaGreatWa19
import Derived.Test.YtfhbmblbidcmmaaGreatWa16
set_option linter.unusedSimpArgs false
set_option linter.unusedVariables false
namespace Go.Proofs.YtfhbmblbidcmmaaGreat
set_option linter.unusedSimpArgs false
set_option linter.unusedVariables false
open Go.RowKit Go.Sl Go.Dk Go.Tr
attribute [local go_sem ↓] Go.wp_at_zero Go.wp_at_succ
attribute [local go_sem] Go.Sl.cell_sat Go.Sl.frozen_sat
def nbs (wd : Nat) (ns : List Int) : List UInt8 := ns.flatMap fun n => leb (n4 n) wd
theorem nbs_len (wd : Nat) (ns : List Int) : (nbs wd ns).length = ns.length * wd := flat_len (fun n => leb_len _ _) ns
theorem nbs_snoc (wd : Nat) (ns : List Int) (n : Int) : nbs wd (ns ++ [n]) = nbs wd ns ++ leb (n4 n) wd := by simp [nbs]
set_option maxRecDepth 100000 in
set_option maxHeartbeats 1600000 in
theorem ndPut_any (body : List UInt8) (a : Option Addr) (c wd : Nat) (ns : List Int) (v : Value) (B F : Assn) (w : World) (hN : ReadsR 1 B v ns.length (ints ns)) (hs : Sat (rw TB 1 (.slice a body.length c) (bys body) * (B * F)) w)
 (hb : body.length ≤ 1048576) (hn : ns.length ≤ 1048576) (h1 : 1 ≤ wd) (h4 : wd ≤ 4) (hr : ∀ n ∈ ns, -1 ≤ n ∧ n ≤ 4294967295 ∧ n4 n < 256 ^ wd) :
 Calls Tryz.prog 233 #[.slice a body.length c, .int .i64 wd, v] w fun e w' => ∃ a' c', e = .returned (.slice a' (body ++ nbs wd ns).length c') ∧ Sat (rw TB 1 (.slice a' (body ++ nbs wd ns).length c') (bys (body ++ nbs wd ns)) * (B * F)) w' := by
 obtain ⟨i0, E⟩ := elemB
 obtain ⟨aN, cN, rfl, hN1, hN2⟩ := hN.v
 have HN : Aside (ReadsR 1 B (.slice aN ns.length cN) ns.length (ints ns)) := hN
 have HR : Aside (∀ n ∈ ns, -1 ≤ n ∧ n ≤ 4294967295 ∧ n4 n < 256 ^ wd) := hr
 obtain ⟨res, hres⟩ : ∃ r, body ++ nbs wd ns = r := ⟨_, rfl⟩
 have HRS : Aside (body ++ nbs wd ns = res) := hres
 rw [hres]
 clear hN hr hres
 go_enter Tryz.func233, Tryz.ntmps233
 go_wp2
 go_loopg [0, 13] ns.length (fun g t0 t13 wr => ∃ (i : Nat) (o : List UInt8) (a2 : Option Addr) (c2 : Nat), t13 = .int .i64 i ∧ t0 = .slice a2 o.length c2 ∧ i ≤ ns.length ∧ o.length ≤ 1048576 + i * 4 ∧ Aside (g = ns.length - i ∧ o = body ++ nbs wd (ns.take i)) ∧
  Sat (rw TB 1 (.slice a2 o.length c2) (bys o) * (B * F)) wr)
 case atStart => exact ⟨0, body, a, c, rfl, rfl, by omega, by omega, ⟨rfl, by simp [nbs]⟩, hs⟩
 case round =>
  obtain ⟨i, o, a2, c2, rfl, rfl, hi, hol, A, hsr⟩ := hrel
  haveI := hsr.i
  clear hs
  by_cases hlt : i < ns.length
  · have hlt' : (i : Int) < ns.length := by omega
    obtain ⟨k, hk⟩ : ∃ k, ns[i]? = some k := ⟨_, List.getElem?_eq_getElem hlt⟩
    obtain ⟨b, q, rfl, r1⟩ := (ReadsR.at HN.out) i (.int .i64 k) (by unfold ints; rw [List.getElem?_map, hk]; rfl)
    have HT : Aside (ns.take (i + 1) = ns.take i ++ [k]) := take_snoc' hk
    obtain ⟨k1, k2, k3⟩ := HR.out k (List.mem_of_getElem? hk)
    have hlb := leBytes_any (n4 k) wd _ wr hsr h1 (by omega) k3 (by have : (256 : Nat) ^ wd ≤ 256 ^ 4 := Nat.pow_le_pow_right (by omega) h4; omega)
    by_cases hm : k = -1
    · subst hm
      have e4 : n4 (-1) = 4294967295 := rfl
      rw [e4] at hlb
      clear hk k1 k2 k3
      go_wp2_with fail
      refine hlb.mono ?_
      rintro e w1 ⟨a3, c3, rfl, hs1⟩
      clear hlb hsr
      haveI := hs1.i
      go_wp2_with (at_builtin; refine wpl_append_same E rfl (.tmp 25) (.tmp 26) rfl rfl rfl (takeI (rw TB 1 (.slice a2 o.length c2) (bys o))) (Reads.srcI (Reads.rw (e := TB) (v := .slice a3 wd c3) (l := leb 4294967295 wd)) (leb_len _ _)) (by unfold maxLen; omega) (by omega) ?_; intro a' c' w3 hs6 hnil; clear hnil; haveI := hs6.i)
      go_roundg (ns.length - (i + 1))
      case measure => have := A.out.1; omega
      case rel =>
       have hlen : (o ++ leb 4294967295 wd).length = o.length + wd := by rw [List.length_append, leb_len]
       refine ⟨i + 1, o ++ leb 4294967295 wd, a', c', by go_num, by rw [hlen], by omega, by rw [hlen]; omega, ⟨rfl, ?_⟩, ?_⟩
       · rw [HT.out, nbs_snoc, A.out.2, List.append_assoc]; rfl
       · rw [hlen, bys_append]
         exact keep3 _ B F
    · have e4 : n4 k = k.toNat := by unfold n4; rw [if_neg hm]
      have HE : Aside (n4 k = k.toNat) := e4
      obtain ⟨m, rfl⟩ := Int.eq_ofNat_of_zero_le (show 0 ≤ k by omega)
      rw [e4] at hlb
      simp only [Int.toNat_natCast] at hlb e4
      have hm2 : ((m : Int) == -1) = false := by simp
      clear hk k1 k2 k3 hm e4
      go_wp2_with fail
      refine hlb.mono ?_
      rintro e w1 ⟨a3, c3, rfl, hs1⟩
      clear hlb hsr
      haveI := hs1.i
      go_wp2_with (at_builtin; refine wpl_append_same E rfl (.tmp 25) (.tmp 26) rfl rfl rfl (takeI (rw TB 1 (.slice a2 o.length c2) (bys o))) (Reads.srcI (Reads.rw (e := TB) (v := .slice a3 wd c3) (l := leb m wd)) (leb_len _ _)) (by unfold maxLen; omega) (by omega) ?_; intro a' c' w3 hs6 hnil; clear hnil; haveI := hs6.i)
      go_roundg (ns.length - (i + 1))
      case measure => have := A.out.1; omega
      case rel =>
       have hlen : (o ++ leb m wd).length = o.length + wd := by rw [List.length_append, leb_len]
       refine ⟨i + 1, o ++ leb m wd, a', c', by go_num, by rw [hlen], by omega, by rw [hlen]; omega, ⟨rfl, ?_⟩, ?_⟩
       · rw [HT.out, nbs_snoc, A.out.2, List.append_assoc]; rw [HE.out]; rfl
       · rw [hlen, bys_append]
         exact keep3 _ B F
  · have hlt' : ¬ (i : Int) < ns.length := by omega
    have hf : ns.take i = ns := List.take_of_length_le (by omega)
    have HO : Aside (o = body ++ nbs wd ns) := (by have := A.out.2; rw [hf] at this; exact this : _ = _)
    clear A hf
    go_wp2
    go_ret
    obtain rfl : res = o := by rw [← HRS.out, ← HO.out]
    exact ⟨a2, c2, rfl, satI⟩
end Go.Proofs.YtfhbmblbidcmmaaGreat
namespace Go.Proofs.YtfhbmblbidcmmaaGreat
set_option linter.unusedSimpArgs false
set_option linter.unusedVariables false
open Go.RowKit Go.Sl Go.Dk Go.Tr
attribute [local go_sem ↓] Go.wp_at_zero Go.wp_at_succ
attribute [local go_sem] Go.Sl.cell_sat Go.Sl.frozen_sat
abbrev cI (X : Nat) (x : Int) : Assn := Sl.block X TIn [.int .i64 x]
set_option maxRecDepth 100000 in
set_option maxHeartbeats 1600000 in
theorem sum1_any (X Y Z : Nat) (x y z b l s : Int) (F : Assn) (w : World) (hs : Sat (cI X x * (cI Y y * (cI Z z * F))) w)
 (hx : 0 ≤ x ∧ x ≤ 4611686018427387904) (hb : 0 ≤ b ∧ b ≤ 1048576) (hy : 0 ≤ y ∧ y ≤ 4611686018427387904) (hsb : 0 ≤ s ∧ s ≤ 1048576) (hz : -1 ≤ z ∧ z ≤ 4611686018427387904) (hl : -1 ≤ l ∧ l ≤ 1048576) :
 Calls Tryz.prog 161 #[.int .i64 b, .int .i64 l, .int .i64 s, .pointer (some ⟨X, 0, none⟩), .pointer (some ⟨Y, 0, none⟩), .pointer (some ⟨Z, 0, none⟩)] w fun e w' => e = .returned (.tuple #[]) ∧ Sat (cI X (x + b) * (cI Y (y + s) * (cI Z (addL z l) * F))) w' := by
 have hw1 : IntKind.i64.wrap (x + b) = x + b := IntWalk.i64_in _ (by omega)
 have hw2 : IntKind.i64.wrap (y + s) = y + s := IntWalk.i64_in _ (by omega)
 haveI := hs.i
 by_cases c1 : l < 0
 · have d1 : decide (l < 0) = true := by simpa using c1
   have HA : Aside (addL z l = -1) := (by unfold addL; rw [if_pos (.inl c1)] : _ = _)
   go_enter Tryz.func161, Tryz.ntmps161
   go_wp2_with fail
   go_region
   go_wp2
   refine bodyPost_ret (results_none rfl _ _ _) rfl ?_
   exact ⟨rfl, by rw [HA.out]; exact satI⟩
 · have d1 : decide (l < 0) = false := by simpa using c1
   by_cases c2 : z < 0
   · have d2 : decide (z < 0) = true := by simpa using c2
     have HA : Aside (addL z l = -1) := (by unfold addL; rw [if_pos (.inr c2)] : _ = _)
     go_enter Tryz.func161, Tryz.ntmps161
     go_wp2_with fail
     go_region
     go_wp2
     refine bodyPost_ret (results_none rfl _ _ _) rfl ?_
     exact ⟨rfl, by rw [HA.out]; exact satI⟩
   · have d2 : decide (z < 0) = false := by simpa using c2
     have HA : Aside (addL z l = z + l) := (by unfold addL; rw [if_neg (by omega)] : _ = _)
     have hw3 : IntKind.i64.wrap (z + l) = z + l := IntWalk.i64_in _ (by omega)
     go_enter Tryz.func161, Tryz.ntmps161
     go_wp2_with fail
     go_region
     go_wp2
     go_end0
     exact ⟨rfl, by rw [HA.out]; exact satI⟩
theorem ndSum_ret (X Y Z : Nat) (x y z : Int) (G : Assn) {Q : Ending → World → Prop} {a : Act} {W : World} (hs : Sat (cI X x * (cI Y y * (cI Z z * G))) W)
 (t2 : a.tmps[2]?.getD undef = .pointer (some ⟨X, 0, none⟩)) (t3 : a.tmps[3]?.getD undef = .pointer (some ⟨Z, 0, none⟩)) (t4 : a.tmps[4]?.getD undef = .pointer (some ⟨Y, 0, none⟩)) (hd : a.defers = [])
 (hQ : Q (.returned (.tuple #[.int .i64 x, .int .i64 z, .int .i64 y])) W) : bodyPost Tryz.prog Tryz.f131 Q .ret a W := by
 haveI := hs.i
 have c1 := cell_sat W X 0
 have c2 := cell_sat W Z 0
 have c3 := cell_sat W Y 0
 refine bodyPost_ret (v := .tuple #[.int .i64 x, .int .i64 z, .int .i64 y]) ?_ hd hQ
 simp [results, Tryz.results131, go_sem, t2, t3, t4, c1, c2, c3]
theorem fold_snoc {α β : Type} {f : β → α → β} {z : β} {l : List α} {i : Nat} {x : α} (h : l[i]? = some x) : (l.take (i + 1)).foldl f z = f ((l.take i).foldl f z) x := by rw [take_snoc' h, List.foldl_append]; rfl
theorem addL_ge {z l : Int} (h : -1 ≤ z) (h2 : -1 ≤ l) : -1 ≤ addL z l := by unfold addL; split <;> omega
theorem addL_le {z l m : Int} (h : z ≤ m) (h2 : l ≤ 1048576) (h3 : -1 ≤ m) : addL z l ≤ m + 1048576 := by unfold addL; split <;> omega
def sumR (n : Nd) : Int × Int × Int := (eBytes n.ents + kBytes n.kids, (n.kids.map (·.lines)).foldl addL ((n.ents.map (·.lines)).foldl addL 0), n.ents.length + kScraps n.kids)
set_option maxRecDepth 100000 in
set_option maxHeartbeats 1600000 in
theorem ndSum_any (n : Nd) (v : Value) (B F : Assn) (w : World) (hN : ReadsN B v n) (hs : Sat (B * F) w) (hle : n.ents.length ≤ 4294967296) (hlk : n.kids.length ≤ 4294967296) :
 Calls Tryz.prog 131 #[v] w fun e w' => e = .returned (.tuple #[.int .i64 (ndSum n).1, .int .i64 (ndSum n).2.1, .int .i64 (ndSum n).2.2]) ∧ Sat (B * F) w' := by
 have hmay := fun F w h => may_any n v B F w hN h hle hlk
 obtain ⟨vE, vK, rfl, hE, hK⟩ := hN
 obtain ⟨aE, cE, rfl, hE1, hE2⟩ := hE.v
 obtain ⟨aK, cK, rfl, hK1, hK2⟩ := hK.v
 have HE : Aside (ReadsE B (.slice aE n.ents.length cE) n.ents) := hE
 have HK : Aside (ReadsK B (.slice aK n.kids.length cK) n.kids) := hK
 obtain ⟨lf, hlf⟩ : ∃ r, n.leaf = r := ⟨_, rfl⟩
 rw [hlf] at hmay ⊢
 obtain ⟨mr, hmr⟩ : ∃ r, may n = r := ⟨_, rfl⟩
 rw [hmr] at hmay
 obtain ⟨T, hT⟩ : ∃ z, w.heap.size = z := ⟨_, rfl⟩
 have a1 := hs.alloc #[.bool lf, .slice aE n.ents.length cE, .slice aK n.kids.length cK] TNd
 have a2 := a1.alloc #[.int .i64 0] TIn
 have a3 := a2.alloc #[.int .i64 0] TIn
 have a4 := a3.alloc #[.int .i64 0] TIn
 have e1 : (w.alloc (.cells #[.bool lf, .slice aE n.ents.length cE, .slice aK n.kids.length cK] TNd)).heap.size = T + 1 := by simp [hT]
 have e2 : ((w.alloc (.cells #[.bool lf, .slice aE n.ents.length cE, .slice aK n.kids.length cK] TNd)).alloc (.cells #[.int .i64 0] TIn)).heap.size = T + 1 + 1 := by simp [hT]
 have e3 : (((w.alloc (.cells #[.bool lf, .slice aE n.ents.length cE, .slice aK n.kids.length cK] TNd)).alloc (.cells #[.int .i64 0] TIn)).alloc (.cells #[.int .i64 0] TIn)).heap.size = T + 1 + 1 + 1 := by simp [hT]
 rw [e1, e2, e3, hT] at a4
 obtain ⟨X, hX⟩ : ∃ z, T + 1 = z := ⟨_, rfl⟩
 obtain ⟨Z, hZ⟩ : ∃ z, T + 1 + 1 = z := ⟨_, rfl⟩
 obtain ⟨Y, hY⟩ : ∃ z, T + 1 + 1 + 1 = z := ⟨_, rfl⟩
 rw [hY, hZ, hX] at a4
 have a5 : Sat (B * (cI X 0 * (cI Y 0 * (cI Z 0 * (Sl.block T TNd [.bool lf, .slice aE n.ents.length cE, .slice aK n.kids.length cK] * F))))) _ := a4.eq (by dsimp only [cI]; ac_rfl)
 have h5 := hmay _ _ a5
 have HT : Aside (w.heap.size = T ∧ w.heap.size + 1 = X ∧ w.heap.size + 1 + 1 = Z ∧ w.heap.size + 1 + 1 + 1 = Y) := ⟨hT, by rw [hT, hX], by rw [hT, hX, ← hZ, hX], by rw [hT, hX, ← hY, hX]⟩
 clear hmay a1 a2 a3 a4 a5 e1 e2 e3 hE hK hT hX hZ hY
 haveI := hs.i
 have HLF : Aside (n.leaf = lf) := hlf
 cases mr with
 | false =>
   have HR : Aside (ndSum n = (0, 0, 0)) := (by unfold ndSum; rw [hmr]; rfl : _ = _)
   clear hmr hlf HE HK
   go_enter Tryz.func131, Tryz.ntmps131
   go_wp2_with fail
   obtain ⟨q1, q2, q3, q4⟩ := HT.out
   rw [q4, q3, q2, q1]
   clear q1 q2 q3 q4
   refine h5.mono ?_
   rintro e w' ⟨rfl, hs2⟩
   haveI := hs2.i
   clear h5
   go_wp2
   rw [HR.out]
   exact ndSum_ret X Y Z 0 0 0 _ (satI_eq (by dsimp only [cI]; ac_rfl) : Sat (cI X 0 * (cI Y 0 * (cI Z 0 * (Sl.block T TNd [.bool lf, .slice aE n.ents.length cE, .slice aK n.kids.length cK] * (B * F))))) _) rfl rfl rfl rfl ⟨rfl, keep2 B F⟩
 | true =>
   have HR : Aside (ndSum n = sumR n) := (by unfold ndSum sumR; rw [hmr]; rfl : _ = _)
   have HMY : Aside ((∀ x ∈ n.ents, mayEnt x = true) ∧ (∀ x ∈ n.kids, mayKid x = true) ∧ n.ents.length ≤ 12 ∧ n.kids.length ≤ 12) := (by
    cases hl : n.leaf with
    | true =>
      obtain ⟨h1, h2, h3, h4, _⟩ := may_leaf hmr hl
      exact ⟨h2, (by rw [h1]; simp), h4, by rw [h1]; simp⟩
    | false =>
      obtain ⟨h1, h2, h3, h4, _⟩ := may_inner hmr hl
      exact ⟨(by rw [h1]; simp), h2, by rw [h1]; simp, h4⟩ : _ ∧ _)
   have hl1 := HMY.out.2.2.1
   have hl2 := HMY.out.2.2.2
   clear hmr hlf
   go_enter Tryz.func131, Tryz.ntmps131
   go_wp2_with fail
   obtain ⟨q1, q2, q3, q4⟩ := HT.out
   rw [q4, q3, q2, q1]
   clear q1 q2 q3 q4
   refine h5.mono ?_
   rintro e w' ⟨rfl, hs2⟩
   have hs3 : Sat (cI X 0 * (cI Y 0 * (cI Z 0 * (Sl.block T TNd [.bool lf, .slice aE n.ents.length cE, .slice aK n.kids.length cK] * (B * F))))) w' := hs2.eq (by ac_rfl)
   haveI := hs3.i
   clear h5 hs hs2
   go_wp2
   go_loopg [17] n.ents.length (fun g t17 wr => ∃ (i : Nat) (x z : Int), t17 = .int .i64 i ∧ i ≤ n.ents.length ∧ 0 ≤ x ∧ x ≤ i * 1048576 ∧ -1 ≤ z ∧ z ≤ i * 1048576 ∧ Aside (g = n.ents.length - i ∧ x = eBytes (n.ents.take i) ∧ z = ((n.ents.map (·.lines)).take i).foldl addL 0) ∧
    Sat (cI X x * (cI Y i * (cI Z z * (Sl.block T TNd [.bool lf, .slice aE n.ents.length cE, .slice aK n.kids.length cK] * (B * F))))) wr)
   case atStart => exact ⟨0, 0, 0, rfl, by omega, by omega, by omega, by omega, by omega, ⟨rfl, by simp [eBytes], by simp⟩, hs3⟩
   case round =>
    obtain ⟨i, x, z, rfl, hi, hx0, hx, hz0, hz, A, hsr⟩ := hrel
    haveI := hsr.i
    clear hs3
    by_cases hlt : i < n.ents.length
    · have hlt' : (i : Int) < n.ents.length := by omega
      obtain ⟨y, hy⟩ : ∃ y, n.ents[i]? = some y := ⟨_, List.getElem?_eq_getElem hlt⟩
      obtain ⟨b, o, rfl, r1, r2, r3, r4⟩ := readsE_at HE.out hy
      have hm := HMY.out.1 y (List.mem_of_getElem? hy)
      have HX : Aside (n.ents[i]? = some y) := hy
      obtain ⟨y1, y2, y3, y4⟩ := y
      have hb := mayE_bounds hm
      have hb2 : -1 ≤ y4 ∧ y4 ≤ y3 := by unfold mayEnt at hm; simp only [decide_eq_true_eq] at hm; exact hm.2.2.2.2.2.2.1
      simp only at hb
      have h1 := fun F w h => sum1_any X Y Z x i z y3 y4 1 F w h (by omega) (by omega) (by omega) (by omega) (by omega) (by omega)
      clear hy hm
      go_wp2_with (go_at_call 161; refine (h1 _ _ (takeI3 (cI X x) (cI Y i) (cI Z z))).mono ?_; rintro e w' ⟨rfl, hs4⟩; haveI := hs4.i)
      go_roundg (n.ents.length - (i + 1))
      case measure => have := A.out.1; omega
      case rel =>
       have e4 : ((n.ents.map (·.lines)))[i]? = some y4 := by rw [List.getElem?_map, HX.out]; rfl
       have g1 := addL_ge hz0 (l := y4) (by omega)
       have g2 := addL_le hz (l := y4) (by omega) (by omega)
       refine ⟨i + 1, x + y3, addL z y4, by go_num, by omega, by omega, by omega, by omega, by omega, ⟨rfl, ?_, ?_⟩, ?_⟩
       · rw [eBytes_snoc HX.out, A.out.2.1]
       · rw [fold_snoc e4, A.out.2.2]
       · exact satI_weak (C := Sl.block wr.heap.size TEn [.int .i64 y1, .int .i64 y2, .int .i64 y3, .int .i64 y4]) (by dsimp only [cI]; rw [show (((i + 1 : Nat)) : Int) = (i : Int) + 1 by omega]; ac_rfl)
    · have hlt' : ¬ (i : Int) < n.ents.length := by omega
      have hf1 : n.ents.take i = n.ents := List.take_of_length_le (by omega)
      have hf2 : (n.ents.map (·.lines)).take i = n.ents.map (·.lines) := List.take_of_length_le (by simp; omega)
      have hii : i = n.ents.length := by omega
      have HEN : Aside (x = eBytes n.ents ∧ z = (n.ents.map (·.lines)).foldl addL 0 ∧ (i : Int) = n.ents.length) := (by
       have h := A.out.2
       rw [hf1, hf2] at h
       exact ⟨h.1, h.2, by omega⟩ : _ ∧ _)
      clear A hf1 hf2 hii HE
      go_wp2
      go_loopg [32] n.kids.length (fun g t32 wq => ∃ (j : Nat) (xk yk zk : Int), t32 = .int .i64 j ∧ j ≤ n.kids.length ∧ 0 ≤ xk ∧ xk ≤ j * 1048576 ∧ 0 ≤ yk ∧ yk ≤ j * 1048576 ∧ -1 ≤ zk ∧ zk ≤ 12582912 + j * 1048576 ∧ Aside (g = n.kids.length - j ∧ xk = kBytes (n.kids.take j) ∧ yk = kScraps (n.kids.take j) ∧ zk = ((n.kids.map (·.lines)).take j).foldl addL z) ∧
       Sat (cI X (x + xk) * (cI Y (i + yk) * (cI Z zk * (Sl.block T TNd [.bool lf, .slice aE n.ents.length cE, .slice aK n.kids.length cK] * (B * F))))) wq)
      case atStart => exact ⟨0, 0, 0, z, rfl, by omega, by omega, by omega, by omega, by omega, by omega, by omega, ⟨rfl, by simp [kBytes], by simp [kScraps], by simp⟩, by simp only [Int.add_zero]; exact satI⟩
      case round =>
       obtain ⟨j, xk, yk, zk, rfl, hj, hk1, hk2, hk3, hk4, hk5, hk6, A, hsq⟩ := hrel
       clear hsr
       haveI := hsq.i
       by_cases hlt : j < n.kids.length
       · have hlt' : (j : Int) < n.kids.length := by omega
         obtain ⟨y, hy⟩ : ∃ y, n.kids[j]? = some y := ⟨_, List.getElem?_eq_getElem hlt⟩
         obtain ⟨b, o, rfl, r1, r2, r3, r4⟩ := readsK_at HK.out hy
         have hm := HMY.out.2.1 y (List.mem_of_getElem? hy)
         have HX : Aside (n.kids[j]? = some y) := hy
         obtain ⟨y1, y2, y3, y4⟩ := y
         have hb := mayK_bounds hm
         have hb2 : -1 ≤ y3 ∧ y3 ≤ y2 := by unfold mayKid at hm; simp only [decide_eq_true_eq] at hm; exact hm.2.2.2.2.1
         simp only at hb
         have h1 := fun F w h => sum1_any X Y Z (x + xk) (i + yk) zk y2 y3 y4 F w h (by omega) (by omega) (by omega) (by omega) (by omega) (by omega)
         clear hy hm
         go_wp2_with (go_at_call 161; refine (h1 _ _ (takeI3 (cI X (x + xk)) (cI Y (i + yk)) (cI Z zk))).mono ?_; rintro e w' ⟨rfl, hs4⟩; haveI := hs4.i)
         go_roundg (n.kids.length - (j + 1))
         case measure => have := A.out.1; omega
         case rel =>
          have e4 : ((n.kids.map (·.lines)))[j]? = some y3 := by rw [List.getElem?_map, HX.out]; rfl
          have g1 := addL_ge hk5 (l := y3) (by omega)
          have g2 := addL_le hk6 (l := y3) (by omega) (by omega)
          refine ⟨j + 1, xk + y2, yk + y4, addL zk y3, by go_num, by omega, by omega, by omega, by omega, by omega, by omega, by omega, ⟨rfl, ?_, ?_, ?_⟩, ?_⟩
          · rw [kBytes_snoc HX.out, A.out.2.1]
          · rw [kScraps_snoc HX.out, A.out.2.2.1]
          · rw [fold_snoc e4, A.out.2.2.2]
          · exact satI_weak (C := Sl.block wr.heap.size TKd [.int .i64 y1, .int .i64 y2, .int .i64 y3, .int .i64 y4]) (by dsimp only [cI]; rw [← Int.add_assoc, ← Int.add_assoc]; ac_rfl)
       · have hlt' : ¬ (j : Int) < n.kids.length := by omega
         have hf1 : n.kids.take j = n.kids := List.take_of_length_le (by omega)
         have hf2 : (n.kids.map (·.lines)).take j = n.kids.map (·.lines) := List.take_of_length_le (by simp; omega)
         have HF : Aside (ndSum n = (x + xk, zk, i + yk)) := (by
          have h := A.out.2
          rw [hf1, hf2] at h
          rw [HR.out]
          unfold sumR
          rw [HEN.out.1, HEN.out.2.2, h.1, h.2.1, h.2.2, HEN.out.2.1] : _ = _)
         clear A hf1 hf2 HK HR
         go_wp2_with fail
         go_region
         go_wp2
         rw [HF.out]
         exact ndSum_ret X Y Z (x + xk) (i + yk) zk _ (satI_eq (by dsimp only [cI]; ac_rfl) : Sat (cI X (x + xk) * (cI Y (i + yk) * (cI Z zk * (Sl.block T TNd [.bool lf, .slice aE n.ents.length cE, .slice aK n.kids.length cK] * (B * F))))) _) rfl rfl rfl rfl ⟨rfl, keep2 B F⟩
end Go.Proofs.YtfhbmblbidcmmaaGreat
