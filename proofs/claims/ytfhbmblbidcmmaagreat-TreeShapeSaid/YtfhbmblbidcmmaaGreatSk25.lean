/-
  Of all roots that are made the pages are a tree in the form of the document, and just these are told, and each is in use. No condition. (part 25)
-/
import Derived.Test.YtfhbmblbidcmmaaGreatSk22
import Derived.Test.YtfhbmblbidcmmaaGreatSk23
import Derived.Test.YtfhbmblbidcmmaaGreatSk24
import Derived.WalkLawsBesides
import Derived.Handy
import Derived.Deep.RegionLaw
import Derived.Deep.RegionHeld3
import Derived.Test.YtfhbmblbidcmmaaGreatSk16
set_option linter.unusedSimpArgs false
set_option linter.unusedVariables false
namespace Go.Tr
theorem flat_drop {α : Type} {f : α → List Value} {s : Nat} (hf : ∀ x, (f x).length = s) : ∀ (l : List α) (i : Nat), (l.flatMap f).drop (i * s) = (l.drop i).flatMap f
 | [], i => by simp
 | y :: l, 0 => by simp
 | y :: l, i + 1 => by
   rw [List.flatMap_cons, List.drop_succ_cons, Nat.add_mul, Nat.one_mul, Nat.add_comm (i * s) s, ← List.drop_drop, List.drop_left' (hf y)]
   exact flat_drop hf l i
theorem flat_take {α : Type} {f : α → List Value} {s : Nat} (hf : ∀ x, (f x).length = s) : ∀ (l : List α) (i : Nat), (l.flatMap f).take (i * s) = (l.take i).flatMap f
 | [], i => by simp
 | y :: l, 0 => by simp
 | y :: l, i + 1 => by
   rw [List.flatMap_cons, List.take_succ_cons, List.flatMap_cons, Nat.add_mul, Nat.one_mul, Nat.add_comm (i * s) s, List.take_append, hf y, Nat.add_sub_cancel_left, List.take_of_length_le (by rw [hf]; omega), flat_take hf l i]
theorem sub_len {α : Type} (l : List α) {i j : Nat} (h : j ≤ l.length) : (sub l i j).length = j - i := by
 unfold sub
 rw [List.length_take, List.length_drop]
 omega
theorem flat_sub {α : Type} {f : α → List Value} {s : Nat} (hf : ∀ x, (f x).length = s) (l : List α) (i j : Nat) : ((l.flatMap f).drop (i * s)).take ((j - i) * s) = (sub l i j).flatMap f := by
 rw [flat_drop hf, flat_take hf]
 rfl
end Go.Tr
namespace Go.Proofs.YtfhbmblbidcmmaaGreat
set_option linter.unusedSimpArgs false
set_option linter.unusedVariables false
open Go.RowKit Go.Sl Go.Dk Go.Tr
attribute [local go_sem ↓] Go.wp_at_zero Go.wp_at_succ
attribute [local go_sem] Go.Sl.cell_sat Go.Sl.frozen_sat
theorem readsE_cut {B : Assn} {a : Option Addr} {c : Nat} {l : List Ent} (h : ReadsE B (.slice a l.length c) l) {i j : Nat} (h1 : i ≤ j) (h2 : j ≤ l.length) : ReadsE B (.slice (cutA a c i 4) (j - i) (c - i)) (sub l i j) := by
 have := ReadsR.cut h i j h1 h2
 unfold ReadsE
 rw [sub_len l h2, ecs, ← flat_sub (s := 4) (fun _ => rfl)]
 exact this
theorem readsK_cut {B : Assn} {a : Option Addr} {c : Nat} {l : List Kd} (h : ReadsK B (.slice a l.length c) l) {i j : Nat} (h1 : i ≤ j) (h2 : j ≤ l.length) : ReadsK B (.slice (cutA a c i 4) (j - i) (c - i)) (sub l i j) := by
 have := ReadsR.cut h i j h1 h2
 unfold ReadsK
 rw [sub_len l h2, kcs, ← flat_sub (s := 4) (fun _ => rfl)]
 exact this
theorem fail_zero (w : World) : Calls Tryz.prog 158 #[.int .i64 0] w fun e w' => e = .returned (.tuple #[]) ∧ w = w' := by
 go_enter Tryz.func158, Tryz.ntmps158
 go_wp2
 go_end0
 exact ⟨rfl, rfl⟩
theorem fail_not (e : Int) (h : e ≠ 0) (w : World) : Calls Tryz.prog 158 #[.int .i64 e] w fun en w' => en = .panicked (faultC e) ∧ w = w' := by
 have h2 : (e == 0) = false := by simp [h]
 have h3 : (e != 0) = true := by simp [h]
 go_enter Tryz.func158, Tryz.ntmps158
 go_wp2
 exact ⟨rfl, rfl, rfl⟩
set_option maxHeartbeats 400000 in
theorem many_any (n : Nd) (v : Value) (B F : Assn) (w : World) (hN : ReadsN B v n) (hs : Sat (B * F) w) (hle : n.ents.length ≤ 4294967296) (hlk : n.kids.length ≤ 4294967296) :
 Calls Tryz.prog 130 #[v] w fun e w' => e = .returned (.int .i64 (many n)) ∧ Sat (B * F) w' := by
 obtain ⟨vE, vK, rfl, hE, hK⟩ := hN
 obtain ⟨aE, cE, rfl, hE1, hE2⟩ := hE.v
 obtain ⟨aK, cK, rfl, hK1, hK2⟩ := hK.v
 haveI := hs.i
 clear hE hK
 go_enter Tryz.func130, Tryz.ntmps130
 go_wp2
 go_ret
 refine ⟨?_, keep2 B F⟩
 simp [many]
abbrev TTl : TypeId := 175
def tallV (x : Tall) : Value := .agg #[.int .i64 x.kid.page, .int .i64 x.kid.bytes, .int .i64 x.kid.lines, .int .i64 x.kid.scraps, .int .i64 x.height]
def kdV (k : Kd) : Value := .agg #[.int .i64 k.page, .int .i64 k.bytes, .int .i64 k.lines, .int .i64 k.scraps]
theorem none_any (F : Assn) (w : World) (hs : Sat F w) : Calls Tryz.prog 143 #[] w fun e w' => e = .returned (tallV noTall) ∧ Sat F w' := by
 haveI := hs.i
 go_enter Tryz.func143, Tryz.ntmps143
 go_wp2
 go_returns
 exact ⟨rfl, keep1 F⟩
set_option maxHeartbeats 800000 in
theorem tcut_any (n : Nd) (i j : Nat) (v : Value) (B F : Assn) (w : World) (hN : ReadsN B v n) (hs : Sat (B * F) w) (hij : i ≤ j) (hj : j ≤ if n.leaf then n.ents.length else n.kids.length) :
 Calls Tryz.prog 166 #[v, .int .i64 i, .int .i64 j] w fun e w' => ∃ v', e = .returned v' ∧ ReadsN B v' (cutN n i j) ∧ Sat (B * F) w' := by
 obtain ⟨i0, E⟩ := elemEn
 obtain ⟨i1, E1⟩ := elemKd
 obtain ⟨vE, vK, rfl, hE, hK⟩ := hN
 obtain ⟨aE, cE, rfl, hE1, hE2⟩ := hE.v
 obtain ⟨aK, cK, rfl, hK1, hK2⟩ := hK.v
 obtain ⟨lf, hlf⟩ : ∃ r, n.leaf = r := ⟨_, rfl⟩
 unfold cutN
 rw [hlf] at hj ⊢
 haveI := hs.i
 cases lf with
 | true =>
   simp only [if_true] at hj ⊢
   have HR : Aside (ReadsE B (.slice (cutA aE cE i 4) (j - i) (cE - i)) (sub n.ents i j)) := readsE_cut hE hij hj
   have hc := at_cut (P := Tryz.prog) E (a := aE) (n := n.ents.length) (c := cE) i j hij (by omega)
   clear hE hK hlf
   obtain ⟨z, hz⟩ : ∃ z, cutA aE cE i 4 = z := ⟨_, rfl⟩
   rw [hz] at hc HR
   clear hz
   go_enter Tryz.func166, Tryz.ntmps166
   go_wp2
   go_returns
   exact ⟨_, rfl, ⟨_, _, rfl, HR.out, ReadsR.nil 4 _⟩, keep2 B F⟩
 | false =>
   simp only [Bool.false_eq_true, if_false] at hj ⊢
   have HR : Aside (ReadsK B (.slice (cutA aK cK i 4) (j - i) (cK - i)) (sub n.kids i j)) := readsK_cut hK hij hj
   have hc := at_cut (P := Tryz.prog) E1 (a := aK) (n := n.kids.length) (c := cK) i j hij (by omega)
   clear hE hK hlf
   obtain ⟨z, hz⟩ : ∃ z, cutA aK cK i 4 = z := ⟨_, rfl⟩
   rw [hz] at hc HR
   clear hz
   go_enter Tryz.func166, Tryz.ntmps166
   go_wp2
   go_returns
   exact ⟨_, rfl, ⟨_, _, rfl, ReadsR.nil 4 _, HR.out⟩, keep2 B F⟩
end Go.Proofs.YtfhbmblbidcmmaaGreat
namespace Go.Sl
theorem row0S {A R : Assn} {b e s : Nat} {w : World} [SatI A w] [Take A (Sl.block b e []) R] : Sat (rw e s (.slice (some ⟨b, 0, none⟩) 0 0) [] * R) w :=
 Sat.rw_shut (sp := []) (by simp) (by simp) (Nat.le_refl _) (by simp [maxLen]) (takeI (Sl.block b e []))
end Go.Sl
namespace Go.Proofs.YtfhbmblbidcmmaaGreat
set_option linter.unusedSimpArgs false
set_option linter.unusedVariables false
open Go.RowKit Go.Sl Go.Dk Go.Tr
attribute [local go_sem ↓] Go.wp_at_zero Go.wp_at_succ
attribute [local go_sem] Go.Sl.cell_sat Go.Sl.frozen_sat
theorem ecs_one (l : List Ent) : ∀ u ∈ ecs l, u.oneCell' = true := by
 intro u hu
 unfold ecs erow at hu
 rw [List.mem_flatMap] at hu
 obtain ⟨x, _, hu⟩ := hu
 simp at hu
 rcases hu with rfl | rfl | rfl | rfl <;> rfl
theorem kcs_one (l : List Kd) : ∀ u ∈ kcs l, u.oneCell' = true := by
 intro u hu
 unfold kcs krow at hu
 rw [List.mem_flatMap] at hu
 obtain ⟨x, _, hu⟩ := hu
 simp at hu
 rcases hu with rfl | rfl | rfl | rfl <;> rfl
theorem readsE_rw {a : Option Addr} {n c : Nat} {l : List Ent} {F : Assn} {w : World} (hs : Sat (rw TEn 4 (.slice a n c) (ecs l) * F) w) (hn : n = l.length) : ReadsE (rw TEn 4 (.slice a n c) (ecs l)) (.slice a n c) l := by
 subst hn
 exact ReadsR.rw hs ⟨a, c, rfl⟩
theorem readsK_rw {a : Option Addr} {n c : Nat} {l : List Kd} {F : Assn} {w : World} (hs : Sat (rw TKd 4 (.slice a n c) (kcs l) * F) w) (hn : n = l.length) : ReadsK (rw TKd 4 (.slice a n c) (kcs l)) (.slice a n c) l := by
 subst hn
 exact ReadsR.rw hs ⟨a, c, rfl⟩
set_option maxRecDepth 100000 in
set_option maxHeartbeats 3200000 in
theorem both_any (a b : Nd) (va vb : Value) (B F : Assn) (w : World) (hA : ReadsN B va a) (hB : ReadsN B vb b) (hs : Sat (B * F) w) (h1 : a.ents.length ≤ 65536) (h2 : b.ents.length ≤ 65536) (h3 : a.kids.length ≤ 65536) (h4 : b.kids.length ≤ 65536) :
 Calls Tryz.prog 169 #[va, vb] w fun e w' => ∃ v' G, e = .returned v' ∧ ReadsN G v' (both a b) ∧ Sat (G * (B * F)) w' := by
 obtain ⟨i0, E⟩ := elemEn
 obtain ⟨i1, E1⟩ := elemKd
 obtain ⟨vE, vK, rfl, hE, hK⟩ := hA
 obtain ⟨aE, cE, rfl, hE1, hE2⟩ := hE.v
 obtain ⟨aK, cK, rfl, hK1, hK2⟩ := hK.v
 obtain ⟨uE, uK, rfl, gE, gK⟩ := hB
 obtain ⟨bE, dE, rfl, gE1, gE2⟩ := gE.v
 obtain ⟨bK, dK, rfl, gK1, gK2⟩ := gK.v
 have HE : Aside (ReadsE B (.slice aE a.ents.length cE) a.ents) := hE
 have HK : Aside (ReadsK B (.slice aK a.kids.length cK) a.kids) := hK
 have GE : Aside (ReadsE B (.slice bE b.ents.length dE) b.ents) := gE
 have GK : Aside (ReadsK B (.slice bK b.kids.length dK) b.kids) := gK
 obtain ⟨n1, k1⟩ : ∃ n, a.ents.length = n := ⟨_, rfl⟩
 obtain ⟨n2, k2⟩ : ∃ n, b.ents.length = n := ⟨_, rfl⟩
 obtain ⟨n3, k3⟩ : ∃ n, a.kids.length = n := ⟨_, rfl⟩
 obtain ⟨n4, k4⟩ : ∃ n, b.kids.length = n := ⟨_, rfl⟩
 have HL : Aside (n1 + n2 = (a.ents ++ b.ents).length ∧ n3 + n4 = (a.kids ++ b.kids).length) := ⟨by simp [k1, k2], by simp [k3, k4]⟩
 have sE := fun (F : Assn) (w : World) (h : Sat (B * F) w) => HE.out.src (P := Tryz.prog) (ecs_one a.ents) h
 have sK := fun (F : Assn) (w : World) (h : Sat (B * F) w) => HK.out.src (P := Tryz.prog) (kcs_one a.kids) h
 have tE := fun (F : Assn) (w : World) (h : Sat (B * F) w) => GE.out.src (P := Tryz.prog) (ecs_one b.ents) h
 have tK := fun (F : Assn) (w : World) (h : Sat (B * F) w) => GK.out.src (P := Tryz.prog) (kcs_one b.kids) h
 rw [k1] at sE h1 ⊢
 rw [k2] at tE h2 ⊢
 rw [k3] at sK h3 ⊢
 rw [k4] at tK h4 ⊢
 have SE : Aside (∀ (F : Assn) (w : World), Sat (B * F) w → Src Tryz.prog 4 w (.slice aE n1 cE) n1 (ecs a.ents)) := sE
 have SK : Aside (∀ (F : Assn) (w : World), Sat (B * F) w → Src Tryz.prog 4 w (.slice aK n3 cK) n3 (kcs a.kids)) := sK
 have TE : Aside (∀ (F : Assn) (w : World), Sat (B * F) w → Src Tryz.prog 4 w (.slice bE n2 dE) n2 (ecs b.ents)) := tE
 have TK : Aside (∀ (F : Assn) (w : World), Sat (B * F) w → Src Tryz.prog 4 w (.slice bK n4 dK) n4 (kcs b.kids)) := tK
 haveI := hs.i
 clear hE hK gE gK k1 k2 k3 k4 sE sK tE tK HE HK GE GK
 go_enter Tryz.func169, Tryz.ntmps169
 go_upto_region 1 with (fail)
 go_region_held3 (fun w' => w'.cell? ⟨w.heap.size, 0, none⟩ = some (.bool a.leaf) ∧ w'.cell? ⟨w.heap.size, 1, none⟩ = some (.slice aE n1 cE) ∧ w'.cell? ⟨w.heap.size, 2, none⟩ = some (.slice aK n3 cK) ∧ w'.cell? ⟨w.heap.size + 1, 1, none⟩ = some (.slice bE n2 dE) ∧ w'.cell? ⟨w.heap.size + 1, 2, none⟩ = some (.slice bK n4 dK)) (exact ⟨cell_sat _ _ _, cell_sat _ _ _, cell_sat _ _ _, cell_sat _ _ _, cell_sat _ _ _⟩) (first
  | (refine step_append_sl E rfl (.tmp 7) (.tmp 9) rfl rfl rfl row0S (SE.out _ _ (takeI B)) (by unfold maxLen; omega) (by omega) ?_; intro a1 c1 w1 q1 z1; clear z1; rw [Nat.zero_add, List.nil_append] at q1; rw [Nat.zero_add]; haveI := q1.i)
  | (refine step_append_sl E rfl (.tmp 10) (.tmp 12) rfl rfl rfl (takeI (rw TEn 4 (.slice a1 n1 c1) (ecs a.ents))) (TE.out _ _ (takeI B)) (by unfold maxLen; omega) (by omega) ?_; intro a2 c2 w2 q2 z2; clear z2; haveI := q2.i)
  | (refine step_append_sl E1 rfl (.tmp 14) (.tmp 16) rfl rfl rfl row0S (SK.out _ _ (takeI B)) (by unfold maxLen; omega) (by omega) ?_; intro a3 c3 w3 q3 z3; clear z3; rw [Nat.zero_add, List.nil_append] at q3; rw [Nat.zero_add]; haveI := q3.i)
  | (refine step_append_sl E1 rfl (.tmp 17) (.tmp 19) rfl rfl rfl (takeI (rw TKd 4 (.slice a3 n3 c3) (kcs a.kids))) (TK.out _ _ (takeI B)) (by unfold maxLen; omega) (by omega) ?_; intro a4 c4 w4 q4 z4; clear z4; haveI := q4.i))
 all_goals
  go_wp2
  go_returns
  have e1 : ecs a.ents ++ ecs b.ents = ecs (both a b).ents := by simp [ecs, both]
  have e2 : kcs a.kids ++ kcs b.kids = kcs (both a b).kids := by simp [kcs, both]
  have r1 := ReadsR.rw q2 ⟨a2, c2, rfl⟩ (n := n1 + n2)
  have r2 := ReadsR.rw q4 ⟨a4, c4, rfl⟩ (n := n3 + n4)
  refine ⟨_, rw TEn 4 (.slice a2 (n1 + n2) c2) (ecs a.ents ++ ecs b.ents) * rw TKd 4 (.slice a4 (n3 + n4) c4) (kcs a.kids ++ kcs b.kids), rfl, ⟨_, _, rfl, ReadsR.left ?_, ReadsR.right ?_⟩, (keep4 _ _ _ _).eq (sep_assoc _ _ _).symm⟩
  · rw [← e1, show (both a b).ents.length = n1 + n2 from HL.out.1.symm]
    exact r1
  · rw [← e2, show (both a b).kids.length = n3 + n4 from HL.out.2.symm]
    exact r2
end Go.Proofs.YtfhbmblbidcmmaaGreat
namespace Go.Tr
theorem eBytes_take_bound {l : List Ent} (hm : ∀ x ∈ l, 0 ≤ x.len ∧ x.len ≤ 1048576) : ∀ i : Nat, 0 ≤ eBytes (l.take i) ∧ eBytes (l.take i) ≤ i * 1048576 := by
 intro i
 induction i with
 | zero => simp [eBytes]
 | succ i ih =>
   cases hx : l[i]? with
   | none =>
     have : l.take (i + 1) = l.take i := by
      have hl : l.length ≤ i := by simpa using hx
      rw [List.take_of_length_le hl, List.take_of_length_le (by omega)]
     rw [this]
     omega
   | some x =>
     have := hm x (List.mem_of_getElem? hx)
     rw [List.take_add_one, hx]
     simp only [Option.toList, eBytes_append]
     have : eBytes [x] = x.len := by simp [eBytes]
     omega
end Go.Tr
namespace Go.Proofs.YtfhbmblbidcmmaaGreat
set_option linter.unusedSimpArgs false
set_option linter.unusedVariables false
open Go.RowKit Go.Sl Go.Dk Go.Tr
attribute [local go_sem ↓] Go.wp_at_zero Go.wp_at_succ
attribute [local go_sem] Go.Sl.cell_sat Go.Sl.frozen_sat
set_option maxHeartbeats 800000 in
theorem total_any (l : List Ent) (v : Value) (B F : Assn) (w : World) (hE : ReadsE B v l) (hs : Sat (B * F) w) (hl : l.length ≤ 4294967296) (hm : ∀ x ∈ l, 0 ≤ x.len ∧ x.len ≤ 1048576) :
 Calls Tryz.prog 92 #[v] w fun e w' => e = .returned (.int .i64 (eBytes l)) ∧ Sat (B * F) w' := by
 obtain ⟨a0, c0, rfl, hE1, hE2⟩ := hE.v
 have HE : Aside (ReadsE B (.slice a0 l.length c0) l) := hE
 have HM : Aside (∀ i : Nat, 0 ≤ eBytes (l.take i) ∧ eBytes (l.take i) ≤ i * 1048576) := eBytes_take_bound hm
 have HMx : Aside (∀ x ∈ l, 0 ≤ x.len ∧ x.len ≤ 1048576) := hm
 obtain ⟨n, hn⟩ : ∃ n, l.length = n := ⟨_, rfl⟩
 rw [hn] at hl ⊢
 have HN : Aside (l.length = n) := hn
 haveI := hs.i
 clear hE hm hn
 go_enter Tryz.func92, Tryz.ntmps92
 go_wp2
 go_loopg [3, 8] n (fun g t3 t8 wr => ∃ (i : Nat), t8 = .int .i64 i ∧ t3 = .int .i64 (eBytes (l.take i)) ∧ i ≤ n ∧ Aside (g = n - i) ∧ Sat (B * F) wr)
 case atStart => exact ⟨0, rfl, by simp [eBytes], by omega, rfl, hs⟩
 case round =>
  obtain ⟨i, rfl, rfl, hi, A, hsr⟩ := hrel
  haveI := hsr.i
  clear hs
  by_cases hlt : i < n
  · have hlt' : (i : Int) < n := by omega
    obtain ⟨y, hy⟩ : ∃ y, l[i]? = some y := ⟨_, List.getElem?_eq_getElem (by rw [HN.out]; exact hlt)⟩
    obtain ⟨b, q, rfl, r1, r2, r3, r4⟩ := readsE_at HE.out hy
    have hb := HM.out i
    have hx := HMx.out y (List.mem_of_getElem? hy)
    have HT : Aside (eBytes (l.take (i + 1)) = eBytes (l.take i) + y.len) := eBytes_snoc hy
    obtain ⟨z, hz⟩ : ∃ z, eBytes (l.take i) = z := ⟨_, rfl⟩
    rw [hz] at hb HT ⊢
    obtain ⟨y1, y2, y3, y4⟩ := y
    simp only at r1 r2 r3 r4 hx HT
    clear hy hz
    go_wp2
    go_roundg (n - (i + 1))
    case measure => have := A.out; omega
    case rel =>
     refine ⟨i + 1, by go_num, by rw [HT.out], by omega, rfl, keep2 _ _⟩
  · have hlt' : ¬ (i : Int) < n := by omega
    obtain rfl : i = n := by omega
    rw [List.take_of_length_le (by rw [HN.out]; exact Nat.le_refl _)]
    go_wp2
    go_ret
    exact ⟨rfl, hsr⟩
theorem reads_one (y : Ent) (b : Nat) : ReadsE (Sl.block b TEn (erow y)) (.slice (some ⟨b, 0, none⟩) 1 1) [y] := by
 refine ⟨rfl, _, _, rfl, Nat.le_refl _, by omega, fun j u hj => ⟨b, 0, rfl, ?_⟩⟩
 have hj2 : (erow y)[j]? = some u := by simpa [ecs] using hj
 haveI : At (erow y) j u := ⟨hj2⟩
 rw [Nat.zero_add]
 infer_instance
set_option maxHeartbeats 800000 in
theorem part_any (x : Ent) (a b : Int) (F : Assn) (w : World) (hs : Sat F w) (h1 : -1099511627776 ≤ x.pos ∧ x.pos ≤ 1099511627776) (h2 : -1099511627776 ≤ a ∧ a ≤ 1099511627776) (h3 : -1099511627776 ≤ b ∧ b ≤ 1099511627776) :
 Calls Tryz.prog 95 #[entV x, .int .i64 a, .int .i64 b] w fun e w' => ∃ v G, e = .returned v ∧ ReadsE G v (Go.Tr.part x a b) ∧ Sat (G * F) w' := by
 obtain ⟨x1, x2, x3, x4⟩ := x
 unfold Go.Tr.part
 simp only at h1 ⊢
 haveI := hs.i
 by_cases hba : b ≤ a
 · rw [if_pos hba]
   go_enter Tryz.func95, Tryz.ntmps95
   go_wp2
   go_ret
   exact ⟨_, 1, rfl, ReadsR.nil 4 _, by rw [one_sep]; exact keep1 _⟩
 · rw [if_neg hba]
   have hba' : a < b := by omega
   by_cases hc : 0 < a ∨ b < x3
   · rw [if_pos hc]
     by_cases hl : x4 = 0
     · subst hl
       rw [if_neg (by simp)]
       rcases Int.lt_or_le 0 a with ha | ha
       · go_enter Tryz.func95, Tryz.ntmps95
         go_wp2
         go_ret
         first | exact ⟨_, Sl.block (w.heap.size + 1) TEn [.int .i64 (x1), .int .i64 (x2 + a), .int .i64 (b - a), .int .i64 (0)], rfl, reads_one ⟨x1, x2 + a, b - a, 0⟩ _, keep2 _ F⟩ | exact ⟨_, rfl, Sl.block (w.heap.size + 1) TEn [.int .i64 (x1), .int .i64 (x2 + a), .int .i64 (b - a), .int .i64 (0)], reads_one ⟨x1, x2 + a, b - a, 0⟩ _, keep2 _ F⟩
       · have hb : b < x3 := by omega
         have ha' : ¬ 0 < a := by omega
         go_enter Tryz.func95, Tryz.ntmps95
         go_wp2
         go_ret
         first | exact ⟨_, Sl.block (w.heap.size + 1) TEn [.int .i64 (x1), .int .i64 (x2 + a), .int .i64 (b - a), .int .i64 (0)], rfl, reads_one ⟨x1, x2 + a, b - a, 0⟩ _, keep2 _ F⟩ | exact ⟨_, rfl, Sl.block (w.heap.size + 1) TEn [.int .i64 (x1), .int .i64 (x2 + a), .int .i64 (b - a), .int .i64 (0)], reads_one ⟨x1, x2 + a, b - a, 0⟩ _, keep2 _ F⟩
     · have hl1 : (x4 != 0) = true := by simpa using hl
       rw [if_pos hl]
       rcases Int.lt_or_le 0 a with ha | ha
       · go_enter Tryz.func95, Tryz.ntmps95
         go_wp2
         go_ret
         first | exact ⟨_, Sl.block (w.heap.size + 1) TEn [.int .i64 (x1), .int .i64 (x2 + a), .int .i64 (b - a), .int .i64 (-1)], rfl, reads_one ⟨x1, x2 + a, b - a, -1⟩ _, keep2 _ F⟩ | exact ⟨_, rfl, Sl.block (w.heap.size + 1) TEn [.int .i64 (x1), .int .i64 (x2 + a), .int .i64 (b - a), .int .i64 (-1)], reads_one ⟨x1, x2 + a, b - a, -1⟩ _, keep2 _ F⟩
       · have hb : b < x3 := by omega
         have ha' : ¬ 0 < a := by omega
         go_enter Tryz.func95, Tryz.ntmps95
         go_wp2
         go_ret
         first | exact ⟨_, Sl.block (w.heap.size + 1) TEn [.int .i64 (x1), .int .i64 (x2 + a), .int .i64 (b - a), .int .i64 (-1)], rfl, reads_one ⟨x1, x2 + a, b - a, -1⟩ _, keep2 _ F⟩ | exact ⟨_, rfl, Sl.block (w.heap.size + 1) TEn [.int .i64 (x1), .int .i64 (x2 + a), .int .i64 (b - a), .int .i64 (-1)], reads_one ⟨x1, x2 + a, b - a, -1⟩ _, keep2 _ F⟩
   · rw [if_neg hc]
     have ha : ¬ 0 < a := by omega
     have hb : ¬ b < x3 := by omega
     go_enter Tryz.func95, Tryz.ntmps95
     go_wp2
     go_ret
     first | exact ⟨_, Sl.block (w.heap.size + 1) TEn [.int .i64 (x1), .int .i64 (x2), .int .i64 (x3), .int .i64 (x4)], rfl, reads_one ⟨x1, x2, x3, x4⟩ _, keep2 _ F⟩ | exact ⟨_, rfl, Sl.block (w.heap.size + 1) TEn [.int .i64 (x1), .int .i64 (x2), .int .i64 (x3), .int .i64 (x4)], reads_one ⟨x1, x2, x3, x4⟩ _, keep2 _ F⟩
theorem mayList_eq (l : List Ent) : mayList l = (l.all mayEnt && decide (eBytes l ≤ 1048576)) := rfl
theorem mayList_stop {l : List Ent} {i : Nat} {y : Ent} (hy : l[i]? = some y) (h : mayEnt y = false) : mayList l = false := by
 rw [mayList_eq]
 have : l.all mayEnt = false := by
  rw [List.all_eq_false]
  exact ⟨y, List.mem_of_getElem? hy, by simp [h]⟩
 rw [this]
 rfl
theorem may_one (y : Ent) : may ⟨true, [y], []⟩ = mayEnt y := by
 unfold may
 cases h : mayEnt y with
 | false => simp [h]
 | true =>
   have := mayE_bounds h
   simp [h, eBytes, kBytes, kScraps]
   omega
set_option maxHeartbeats 1600000 in
theorem tmay_any (l : List Ent) (v : Value) (B F : Assn) (w : World) (hE : ReadsE B v l) (hs : Sat (B * F) w) (hl : l.length ≤ 4294967296) :
 Calls Tryz.prog 79 #[v] w fun e w' => e = .returned (.bool (mayList l)) ∧ Sat (B * F) w' := by
 obtain ⟨a0, c0, rfl, hE1, hE2⟩ := hE.v
 have HE : Aside (ReadsE B (.slice a0 l.length c0) l) := hE
 obtain ⟨n, hn⟩ : ∃ n, l.length = n := ⟨_, rfl⟩
 rw [hn] at hl ⊢
 have HN : Aside (l.length = n) := hn
 obtain ⟨mr, hmr⟩ : ∃ r, mayList l = r := ⟨_, rfl⟩
 rw [hmr]
 have HR : Aside (mayList l = mr) := hmr
 haveI := hs.i
 clear hE hn hmr
 go_enter Tryz.func79, Tryz.ntmps79
 go_wp2
 go_loopg [3, 8] n (fun g t3 t8 wr => ∃ (i : Nat), t8 = .int .i64 i ∧ t3 = .int .i64 (eBytes (l.take i)) ∧ i ≤ n ∧ Aside (g = n - i) ∧ Aside ((∀ x ∈ l.take i, mayEnt x = true) ∧ 0 ≤ eBytes (l.take i) ∧ eBytes (l.take i) ≤ 1048576) ∧ Sat (B * F) wr)
 case atStart => exact ⟨0, rfl, by simp [eBytes], by omega, rfl, ⟨by simp, by simp [eBytes], by simp [eBytes]⟩, hs⟩
 case round =>
  obtain ⟨i, rfl, rfl, hi, A, HI, hsr⟩ := hrel
  haveI := hsr.i
  clear hs
  by_cases hlt : i < n
  · have hlt' : (i : Int) < n := by omega
    obtain ⟨y, hy⟩ : ∃ y, l[i]? = some y := ⟨_, List.getElem?_eq_getElem (by rw [HN.out]; exact hlt)⟩
    obtain ⟨b, q, rfl, r1, r2, r3, r4⟩ := readsE_at HE.out hy
    have HT : Aside (eBytes (l.take (i + 1)) = eBytes (l.take i) + y.len ∧ l.take (i + 1) = l.take i ++ [y]) := ⟨eBytes_snoc hy, take_snoc' hy⟩
    have hmay : ∀ (G : Assn) (w : World) (b : Nat), Sat (Sl.block b TEn (erow y) * G) w → Calls Tryz.prog 133 #[.agg #[.bool true, .slice (some ⟨b, 0, none⟩) 1 1, .slice none 0 0]] w fun e w' => e = .returned (.bool (mayEnt y)) ∧ Sat (Sl.block b TEn (erow y) * G) w' := fun G w b h => by
     rw [← may_one]
     refine may_any ⟨true, [y], []⟩ _ _ G w ⟨_, _, rfl, ?_, ReadsR.nil 4 _⟩ h (by simp) (by simp)
     refine ⟨rfl, _, _, rfl, Nat.le_refl _, by omega, fun j u hj => ⟨b, 0, rfl, ?_⟩⟩
     have hj2 : (erow y)[j]? = some u := by simpa [ecs] using hj
     haveI : At (erow y) j u := ⟨hj2⟩
     rw [Nat.zero_add]
     infer_instance
    have HMF : Aside (mayEnt y = false → mr = false) := fun h => HR.out.symm.trans (mayList_stop hy h)
    have hbd := HI.out.2
    obtain ⟨z, hz⟩ : ∃ z, eBytes (l.take i) = z := ⟨_, rfl⟩
    rw [hz] at hbd HT ⊢
    cases hme : mayEnt y with
    | false =>
      rw [hme] at hmay
      have hmr := HMF.out hme
      subst hmr
      obtain ⟨y1, y2, y3, y4⟩ := y
      unfold erow at hmay
      simp only at r1 r2 r3 r4 hmay
      clear hy hz hme
      go_wp2_with fail
      with_reducible refine Calls.mono (hmay _ _ _ (takeI (Sl.block _ TEn _))) ?_
      rintro e w2 ⟨rfl, q2⟩
      haveI := q2.i
      go_wp2
      go_ret
      exact ⟨rfl, keep2 _ _⟩
    | true =>
      rw [hme] at hmay
      have hyb := mayE_bounds hme
      have HY : Aside (mayEnt y = true) := hme
      obtain ⟨y1, y2, y3, y4⟩ := y
      unfold erow at hmay
      simp only at r1 r2 r3 r4 hmay hyb HT
      clear hme
      by_cases hbig : 1048576 < z + y3
      · have hmr : mr = false := by
         rw [← HR.out]
         rw [mayList_eq]
         by_cases hall : l.all mayEnt = true
         · have h1 : eBytes l = eBytes (l.take (i + 1)) + eBytes (l.drop (i + 1)) := by rw [← eBytes_append, List.take_append_drop]
           have h2 : 0 ≤ eBytes (l.drop (i + 1)) := by
            have := (eBytes_take_bound (l := l.drop (i + 1)) (fun x hx => by
             have := mayE_bounds (List.all_eq_true.1 hall x (List.mem_of_mem_drop hx))
             omega) (l.drop (i + 1)).length).1
            rwa [List.take_of_length_le (Nat.le_refl _)] at this
           have h3 := HT.out.1
           rw [decide_eq_false (by omega), Bool.and_false]
         · rw [Bool.not_eq_true] at hall
           rw [hall]
           rfl
        subst hmr
        clear hy hz
        go_wp2_with fail
        with_reducible refine Calls.mono (hmay _ _ _ (takeI (Sl.block _ TEn _))) ?_
        rintro e w2 ⟨rfl, q2⟩
        haveI := q2.i
        go_wp2
        go_ret
        exact ⟨rfl, keep2 _ _⟩
      · clear hy hz
        go_wp2_with fail
        with_reducible refine Calls.mono (hmay _ _ _ (takeI (Sl.block _ TEn _))) ?_
        rintro e w2 ⟨rfl, q2⟩
        haveI := q2.i
        go_wp2
        go_roundg (n - (i + 1))
        case measure => have := A.out; omega
        case rel =>
         refine ⟨i + 1, by go_num, by rw [HT.out.1], by omega, rfl, ⟨?_, by rw [HT.out.1]; omega, by rw [HT.out.1]; omega⟩, keep2 _ _⟩
         rw [HT.out.2]
         intro x hx
         rcases List.mem_append.1 hx with hx | hx
         · exact HI.out.1 x hx
         · simp at hx; subst hx; exact HY.out
  · have hlt' : ¬ (i : Int) < n := by omega
    obtain rfl : i = n := by omega
    have hmr : mr = true := by
     rw [← HR.out]
     have h := HI.out
     rw [List.take_of_length_le (by rw [HN.out]; exact Nat.le_refl _)] at h
     rw [mayList_eq]
     rw [List.all_eq_true.2 h.1, decide_eq_true h.2.2]
     rfl
    subst hmr
    go_wp2
    go_ret
    exact ⟨rfl, hsr⟩
end Go.Proofs.YtfhbmblbidcmmaaGreat
namespace Go.Proofs.YtfhbmblbidcmmaaGreat
set_option linter.unusedSimpArgs false
set_option linter.unusedVariables false
open Go.RowKit Go.Sl Go.Dk Go.Tr
attribute [local go_sem ↓] Go.wp_at_zero Go.wp_at_succ
attribute [local go_sem] Go.Sl.cell_sat Go.Sl.frozen_sat
end Go.Proofs.YtfhbmblbidcmmaaGreat
namespace Go.Proofs.YtfhbmblbidcmmaaGreat
set_option linter.unusedSimpArgs false
set_option linter.unusedVariables false
open Go.RowKit Go.Sl Go.Dk
open Go.Lru (ikey)
attribute [local go_sem ↓] Go.wp_at_zero Go.wp_at_succ
attribute [local go_sem] Go.Sl.cell_sat Go.Sl.frozen_sat look_PM len_PM put_PM del_PM
def Ck.forget (s : Ck) (no : Int) : Bool × Ck := if dropB s.its no then (true, { s with its := outI s.its no, pgs := pdel no s.pgs }) else (false, s)
set_option maxRecDepth 100000 in
set_option maxHeartbeats 1000000 in
theorem forget_any (C D : Nat) (s : Ck) (m : Nat) (no : Int) (F : Assn) (w : World) (hs : Sat (cacheP C D s * F) w) (ok : CkOk m s) :
 Calls Tryz.prog 135 #[.pointer (some ⟨C, 0, none⟩), .int .i64 no] w fun e w' => e = .returned (.bool (s.forget no).1) ∧ Sat (cacheP C D (s.forget no).2 * F) w' := by
 obtain ⟨L, PM, ps, hp, hs⟩ := Sat.cache_open hs
 have hdr := fun F w h => dropH L s.cap s.its no F w h ok.lru
 unfold Ck.forget
 unfold cacheA at hs
 haveI := hs.i
 cases hd : dropB s.its no with
 | true =>
   rw [hd, if_pos rfl] at hdr
   rw [if_pos rfl]
   obtain ⟨b, hb, hl, h0, h1⟩ := ok.key (drop_has hd)
   have HDR : Aside (∀ (F : Assn) (w : World), Sat (lruI L s.cap s.its * F) w → Calls Tryz.prog 164 #[.pointer (some ⟨L, 0, none⟩), .int .i64 no] w fun e w' => e = .returned (.bool true) ∧ Sat (lruI L s.cap (outI s.its no) * F) w') := hdr
   have HP : Aside (pgents ps = s.pgs ∧ pget no s.pgs = some b) := ⟨hp, hb⟩
   clear hdr hl h0 h1 hd
   rcases pg_cases ps no with ⟨l1, p, l2, rfl, rfl, hl1⟩ | hno
   · obtain ⟨_, _, _, q4, q5⟩ := pg_found (l2 := l2) hl1
     have HQ : Aside (pgents (l1 ++ l2) = pdel p.key s.pgs ∧ mdel p.key ((l1 ++ p :: l2).map kvP) = (l1 ++ l2).map kvP) := ⟨by rw [← HP.out.1]; exact q4.symm, q5⟩
     clear q4 q5 hp hb
     go_enter Tryz.func135, Tryz.ntmps135
     go_wp2_with fail
     refine (HDR.out _ _ (takeI (lruI L s.cap s.its))).mono ?_
     rintro e w3 ⟨rfl, hs3⟩
     haveI := hs3.i
     clear hs
     go_wp2
     go_ret
     refine ⟨rfl, ?_⟩
     refine Sat.cache_shut (L := L) (PM := PM) (ps := l1 ++ l2) HQ.out.1 ?_
     refine satI_weak (C := rw TB 1 p.v (bys p.b)) ?_
     rw [HQ.out.2, pagesA_append, show pagesA (p :: l2) = rw TB 1 p.v (bys p.b) * pagesA l2 from rfl]
     show _ = coreC C L D PM s * (lruI L s.cap (outI s.its p.key) * (diskP D s.d * (mp ikey PM ((l1 ++ l2).map kvP) * pagesA (l1 ++ l2)))) * F * rw TB 1 p.v (bys p.b)
     rw [pagesA_append]
     ac_rfl
   · have := HP.out.2
     rw [← HP.out.1, (pg_none hno).1] at this
     cases this
 | false =>
   rw [hd, if_neg (by simp)] at hdr
   rw [if_neg (by simp)]
   have HP : Aside (pgents ps = s.pgs) := hp
   clear hd hp
   go_enter Tryz.func135, Tryz.ntmps135
   go_wp2_with fail
   refine (hdr _ _ (takeI (lruI L s.cap s.its))).mono ?_
   rintro e w3 ⟨rfl, hs3⟩
   haveI := hs3.i
   go_wp2
   go_ret
   refine ⟨rfl, Sat.cache_shut (L := L) (PM := PM) HP.out ?_⟩
   unfold cacheA
   exact satI_eq (by ac_rfl)
end Go.Proofs.YtfhbmblbidcmmaaGreat
namespace Go.Proofs.YtfhbmblbidcmmaaGreat
set_option linter.unusedSimpArgs false
set_option linter.unusedVariables false
open Go.RowKit Go.Sl Go.Dk Go.Tr
attribute [local go_sem ↓] Go.wp_at_zero Go.wp_at_succ
attribute [local go_sem] Go.Sl.cell_sat Go.Sl.frozen_sat
def forgets (l : List Int) (c : Ck) : Ck := l.foldl (fun c no => (c.forget no).2) c
end Go.Proofs.YtfhbmblbidcmmaaGreat
namespace Go.Proofs.YtfhbmblbidcmmaaGreat
set_option linter.unusedSimpArgs false
set_option linter.unusedVariables false
open Go.RowKit Go.Sl Go.Dk Go.Tr
open Go.Lru (ikey)
theorem forget_ok {m : Nat} {s : Ck} (hw : CkOk m s) (no : Int) : CkOk m (s.forget no).2 := by
 unfold Ck.forget
 by_cases hd : dropB s.its no = true
 · simp only [hd, if_true]
   have ho := out_len hw.lru (drop_has hd)
   refine ⟨ok_out hw.lru no, hw.nd.sublist ((pdel_sub _ _).map _), ?_, ?_, fun p hp => hw.page p ((pdel_sub _ _).subset hp), hw.cap, ?_, hw.dk, hw.nm, hw.reads⟩
   · intro k
     show hasI (outI s.its no) k = (pget k (pdel no s.pgs)).isSome
     rw [pget_pdel hw.nd]
     by_cases hk : k = no
     · rw [if_pos hk]
       subst hk
       show _ = false
       rw [Bool.eq_false_iff]
       intro h
       exact (out_mem.1 (hasI_iff.1 h)).2 rfl
     · rw [if_neg hk, ← hw.same k, Bool.eq_iff_iff, hasI_iff, hasI_iff, out_mem]
       simp [hk]
   · show (pdel no s.pgs).length = (outI s.its no).length
     have := pdel_len (k := no) (l := s.pgs) (by rw [← hw.same]; exact drop_has hd)
     have := hw.len
     omega
   · have := hw.most
     show ((outI s.its no).length : Int) ≤ s.cap
     omega
 · rw [if_neg hd]
   exact hw
theorem forgets_ok {m : Nat} (l : List Int) {s : Ck} (hw : CkOk m s) : CkOk m (forgets l s) := by
 induction l generalizing s with
 | nil => exact hw
 | cons a l ih => exact ih (forget_ok hw a)
end Go.Proofs.YtfhbmblbidcmmaaGreat
