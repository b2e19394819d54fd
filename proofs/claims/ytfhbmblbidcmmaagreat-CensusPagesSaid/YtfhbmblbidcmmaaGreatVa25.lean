/-
  Of all versions the pages that are told are just those of their trees in the file in the form of the document, and a root that is none is refused. No condition. (part 25)
-/
import Derived.Test.YtfhbmblbidcmmaaGreatVa22
import Derived.Test.YtfhbmblbidcmmaaGreatVa23
import Derived.Test.YtfhbmblbidcmmaaGreatVa24
import Derived.WalkLawsBesides
import Derived.Handy
import Derived.Deep.RegionLaw
import Derived.Deep.RegionHeld3
set_option linter.unusedSimpArgs false
set_option linter.unusedVariables false
namespace Go.Tr
theorem flat_drop {α : Type} {f : α → List Value} {s : Nat} (hf : ∀ x, (f x).length = s) : ∀ (l : List α) (i : Nat), (l.flatMap f).drop (i * s) = (l.drop i).flatMap f
 | [], i => by simp
 | y :: l, 0 => by simp
 | y :: l, i + 1 => by
   rw [List.flatMap_cons, List.drop_succ_cons, Nat.add_mul, Nat.one_mul, Nat.add_comm (i * s) s, ← List.drop_drop, List.drop_left' (hf y)]
   exact flat_drop hf l i
theorem flat_take {α : Type} {f : α → List Value} {s : Nat} (hf : ∀ x, (f x).length = s) : ∀ (l : List α) (i : Nat), (l.flatMap f).take (i * s) = (l.take i).flatMap f
 | [], i => by simp
 | y :: l, 0 => by simp
 | y :: l, i + 1 => by
   rw [List.flatMap_cons, List.take_succ_cons, List.flatMap_cons, Nat.add_mul, Nat.one_mul, Nat.add_comm (i * s) s, List.take_append, hf y, Nat.add_sub_cancel_left, List.take_of_length_le (by rw [hf]; omega), flat_take hf l i]
theorem sub_len {α : Type} (l : List α) {i j : Nat} (h : j ≤ l.length) : (sub l i j).length = j - i := by
 unfold sub
 rw [List.length_take, List.length_drop]
 omega
theorem flat_sub {α : Type} {f : α → List Value} {s : Nat} (hf : ∀ x, (f x).length = s) (l : List α) (i j : Nat) : ((l.flatMap f).drop (i * s)).take ((j - i) * s) = (sub l i j).flatMap f := by
 rw [flat_drop hf, flat_take hf]
 rfl
end Go.Tr
namespace Go.Proofs.YtfhbmblbidcmmaaGreat
set_option linter.unusedSimpArgs false
set_option linter.unusedVariables false
open Go.RowKit Go.Sl Go.Dk Go.Tr
attribute [local go_sem ↓] Go.wp_at_zero Go.wp_at_succ
attribute [local go_sem] Go.Sl.cell_sat Go.Sl.frozen_sat
theorem readsE_cut {B : Assn} {a : Option Addr} {c : Nat} {l : List Ent} (h : ReadsE B (.slice a l.length c) l) {i j : Nat} (h1 : i ≤ j) (h2 : j ≤ l.length) : ReadsE B (.slice (cutA a c i 4) (j - i) (c - i)) (sub l i j) := by
 have := ReadsR.cut h i j h1 h2
 unfold ReadsE
 rw [sub_len l h2, ecs, ← flat_sub (s := 4) (fun _ => rfl)]
 exact this
theorem readsK_cut {B : Assn} {a : Option Addr} {c : Nat} {l : List Kd} (h : ReadsK B (.slice a l.length c) l) {i j : Nat} (h1 : i ≤ j) (h2 : j ≤ l.length) : ReadsK B (.slice (cutA a c i 4) (j - i) (c - i)) (sub l i j) := by
 have := ReadsR.cut h i j h1 h2
 unfold ReadsK
 rw [sub_len l h2, kcs, ← flat_sub (s := 4) (fun _ => rfl)]
 exact this
theorem fail_zero (w : World) : Calls Tryz.prog 158 #[.int .i64 0] w fun e w' => e = .returned (.tuple #[]) ∧ w = w' := by
 go_enter Tryz.func158, Tryz.ntmps158
 go_wp2
 go_end0
 exact ⟨rfl, rfl⟩
theorem fail_not (e : Int) (h : e ≠ 0) (w : World) : Calls Tryz.prog 158 #[.int .i64 e] w fun en w' => en = .panicked (faultC e) ∧ w = w' := by
 have h2 : (e == 0) = false := by simp [h]
 have h3 : (e != 0) = true := by simp [h]
 go_enter Tryz.func158, Tryz.ntmps158
 go_wp2
 exact ⟨rfl, rfl, rfl⟩
set_option maxHeartbeats 400000 in
theorem many_any (n : Nd) (v : Value) (B F : Assn) (w : World) (hN : ReadsN B v n) (hs : Sat (B * F) w) (hle : n.ents.length ≤ 4294967296) (hlk : n.kids.length ≤ 4294967296) :
 Calls Tryz.prog 130 #[v] w fun e w' => e = .returned (.int .i64 (many n)) ∧ Sat (B * F) w' := by
 obtain ⟨vE, vK, rfl, hE, hK⟩ := hN
 obtain ⟨aE, cE, rfl, hE1, hE2⟩ := hE.v
 obtain ⟨aK, cK, rfl, hK1, hK2⟩ := hK.v
 haveI := hs.i
 clear hE hK
 go_enter Tryz.func130, Tryz.ntmps130
 go_wp2
 go_ret
 refine ⟨?_, keep2 B F⟩
 simp [many]
abbrev TTl : TypeId := 175
def tallV (x : Tall) : Value := .agg #[.int .i64 x.kid.page, .int .i64 x.kid.bytes, .int .i64 x.kid.lines, .int .i64 x.kid.scraps, .int .i64 x.height]
def kdV (k : Kd) : Value := .agg #[.int .i64 k.page, .int .i64 k.bytes, .int .i64 k.lines, .int .i64 k.scraps]
theorem none_any (F : Assn) (w : World) (hs : Sat F w) : Calls Tryz.prog 143 #[] w fun e w' => e = .returned (tallV noTall) ∧ Sat F w' := by
 haveI := hs.i
 go_enter Tryz.func143, Tryz.ntmps143
 go_wp2
 go_returns
 exact ⟨rfl, keep1 F⟩
set_option maxHeartbeats 800000 in
theorem tcut_any (n : Nd) (i j : Nat) (v : Value) (B F : Assn) (w : World) (hN : ReadsN B v n) (hs : Sat (B * F) w) (hij : i ≤ j) (hj : j ≤ if n.leaf then n.ents.length else n.kids.length) :
 Calls Tryz.prog 166 #[v, .int .i64 i, .int .i64 j] w fun e w' => ∃ v', e = .returned v' ∧ ReadsN B v' (cutN n i j) ∧ Sat (B * F) w' := by
 obtain ⟨i0, E⟩ := elemEn
 obtain ⟨i1, E1⟩ := elemKd
 obtain ⟨vE, vK, rfl, hE, hK⟩ := hN
 obtain ⟨aE, cE, rfl, hE1, hE2⟩ := hE.v
 obtain ⟨aK, cK, rfl, hK1, hK2⟩ := hK.v
 obtain ⟨lf, hlf⟩ : ∃ r, n.leaf = r := ⟨_, rfl⟩
 unfold cutN
 rw [hlf] at hj ⊢
 haveI := hs.i
 cases lf with
 | true =>
   simp only [if_true] at hj ⊢
   have HR : Aside (ReadsE B (.slice (cutA aE cE i 4) (j - i) (cE - i)) (sub n.ents i j)) := readsE_cut hE hij hj
   have hc := at_cut (P := Tryz.prog) E (a := aE) (n := n.ents.length) (c := cE) i j hij (by omega)
   clear hE hK hlf
   obtain ⟨z, hz⟩ : ∃ z, cutA aE cE i 4 = z := ⟨_, rfl⟩
   rw [hz] at hc HR
   clear hz
   go_enter Tryz.func166, Tryz.ntmps166
   go_wp2
   go_returns
   exact ⟨_, rfl, ⟨_, _, rfl, HR.out, ReadsR.nil 4 _⟩, keep2 B F⟩
 | false =>
   simp only [Bool.false_eq_true, if_false] at hj ⊢
   have HR : Aside (ReadsK B (.slice (cutA aK cK i 4) (j - i) (cK - i)) (sub n.kids i j)) := readsK_cut hK hij hj
   have hc := at_cut (P := Tryz.prog) E1 (a := aK) (n := n.kids.length) (c := cK) i j hij (by omega)
   clear hE hK hlf
   obtain ⟨z, hz⟩ : ∃ z, cutA aK cK i 4 = z := ⟨_, rfl⟩
   rw [hz] at hc HR
   clear hz
   go_enter Tryz.func166, Tryz.ntmps166
   go_wp2
   go_returns
   exact ⟨_, rfl, ⟨_, _, rfl, ReadsR.nil 4 _, HR.out⟩, keep2 B F⟩
end Go.Proofs.YtfhbmblbidcmmaaGreat
namespace Go.Sl
theorem row0S {A R : Assn} {b e s : Nat} {w : World} [SatI A w] [Take A (Sl.block b e []) R] : Sat (rw e s (.slice (some ⟨b, 0, none⟩) 0 0) [] * R) w :=
 Sat.rw_shut (sp := []) (by simp) (by simp) (Nat.le_refl _) (by simp [maxLen]) (takeI (Sl.block b e []))
end Go.Sl
namespace Go.Proofs.YtfhbmblbidcmmaaGreat
set_option linter.unusedSimpArgs false
set_option linter.unusedVariables false
open Go.RowKit Go.Sl Go.Dk Go.Tr
attribute [local go_sem ↓] Go.wp_at_zero Go.wp_at_succ
attribute [local go_sem] Go.Sl.cell_sat Go.Sl.frozen_sat
theorem ecs_one (l : List Ent) : ∀ u ∈ ecs l, u.oneCell' = true := by
 intro u hu
 unfold ecs erow at hu
 rw [List.mem_flatMap] at hu
 obtain ⟨x, _, hu⟩ := hu
 simp at hu
 rcases hu with rfl | rfl | rfl | rfl <;> rfl
theorem kcs_one (l : List Kd) : ∀ u ∈ kcs l, u.oneCell' = true := by
 intro u hu
 unfold kcs krow at hu
 rw [List.mem_flatMap] at hu
 obtain ⟨x, _, hu⟩ := hu
 simp at hu
 rcases hu with rfl | rfl | rfl | rfl <;> rfl
theorem readsE_rw {a : Option Addr} {n c : Nat} {l : List Ent} {F : Assn} {w : World} (hs : Sat (rw TEn 4 (.slice a n c) (ecs l) * F) w) (hn : n = l.length) : ReadsE (rw TEn 4 (.slice a n c) (ecs l)) (.slice a n c) l := by
 subst hn
 exact ReadsR.rw hs ⟨a, c, rfl⟩
theorem readsK_rw {a : Option Addr} {n c : Nat} {l : List Kd} {F : Assn} {w : World} (hs : Sat (rw TKd 4 (.slice a n c) (kcs l) * F) w) (hn : n = l.length) : ReadsK (rw TKd 4 (.slice a n c) (kcs l)) (.slice a n c) l := by
 subst hn
 exact ReadsR.rw hs ⟨a, c, rfl⟩
set_option maxRecDepth 100000 in
set_option maxHeartbeats 3200000 in
theorem both_any (a b : Nd) (va vb : Value) (B F : Assn) (w : World) (hA : ReadsN B va a) (hB : ReadsN B vb b) (hs : Sat (B * F) w) (h1 : a.ents.length ≤ 65536) (h2 : b.ents.length ≤ 65536) (h3 : a.kids.length ≤ 65536) (h4 : b.kids.length ≤ 65536) :
 Calls Tryz.prog 169 #[va, vb] w fun e w' => ∃ v' G, e = .returned v' ∧ ReadsN G v' (both a b) ∧ Sat (G * (B * F)) w' := by
 obtain ⟨i0, E⟩ := elemEn
 obtain ⟨i1, E1⟩ := elemKd
 obtain ⟨vE, vK, rfl, hE, hK⟩ := hA
 obtain ⟨aE, cE, rfl, hE1, hE2⟩ := hE.v
 obtain ⟨aK, cK, rfl, hK1, hK2⟩ := hK.v
 obtain ⟨uE, uK, rfl, gE, gK⟩ := hB
 obtain ⟨bE, dE, rfl, gE1, gE2⟩ := gE.v
 obtain ⟨bK, dK, rfl, gK1, gK2⟩ := gK.v
 have HE : Aside (ReadsE B (.slice aE a.ents.length cE) a.ents) := hE
 have HK : Aside (ReadsK B (.slice aK a.kids.length cK) a.kids) := hK
 have GE : Aside (ReadsE B (.slice bE b.ents.length dE) b.ents) := gE
 have GK : Aside (ReadsK B (.slice bK b.kids.length dK) b.kids) := gK
 obtain ⟨n1, k1⟩ : ∃ n, a.ents.length = n := ⟨_, rfl⟩
 obtain ⟨n2, k2⟩ : ∃ n, b.ents.length = n := ⟨_, rfl⟩
 obtain ⟨n3, k3⟩ : ∃ n, a.kids.length = n := ⟨_, rfl⟩
 obtain ⟨n4, k4⟩ : ∃ n, b.kids.length = n := ⟨_, rfl⟩
 have HL : Aside (n1 + n2 = (a.ents ++ b.ents).length ∧ n3 + n4 = (a.kids ++ b.kids).length) := ⟨by simp [k1, k2], by simp [k3, k4]⟩
 have sE := fun (F : Assn) (w : World) (h : Sat (B * F) w) => HE.out.src (P := Tryz.prog) (ecs_one a.ents) h
 have sK := fun (F : Assn) (w : World) (h : Sat (B * F) w) => HK.out.src (P := Tryz.prog) (kcs_one a.kids) h
 have tE := fun (F : Assn) (w : World) (h : Sat (B * F) w) => GE.out.src (P := Tryz.prog) (ecs_one b.ents) h
 have tK := fun (F : Assn) (w : World) (h : Sat (B * F) w) => GK.out.src (P := Tryz.prog) (kcs_one b.kids) h
 rw [k1] at sE h1 ⊢
 rw [k2] at tE h2 ⊢
 rw [k3] at sK h3 ⊢
 rw [k4] at tK h4 ⊢
 have SE : Aside (∀ (F : Assn) (w : World), Sat (B * F) w → Src Tryz.prog 4 w (.slice aE n1 cE) n1 (ecs a.ents)) := sE
 have SK : Aside (∀ (F : Assn) (w : World), Sat (B * F) w → Src Tryz.prog 4 w (.slice aK n3 cK) n3 (kcs a.kids)) := sK
 have TE : Aside (∀ (F : Assn) (w : World), Sat (B * F) w → Src Tryz.prog 4 w (.slice bE n2 dE) n2 (ecs b.ents)) := tE
 have TK : Aside (∀ (F : Assn) (w : World), Sat (B * F) w → Src Tryz.prog 4 w (.slice bK n4 dK) n4 (kcs b.kids)) := tK
 haveI := hs.i
 clear hE hK gE gK k1 k2 k3 k4 sE sK tE tK HE HK GE GK
 go_enter Tryz.func169, Tryz.ntmps169
 go_upto_region 1 with (fail)
 go_region_held3 (fun w' => w'.cell? ⟨w.heap.size, 0, none⟩ = some (.bool a.leaf) ∧ w'.cell? ⟨w.heap.size, 1, none⟩ = some (.slice aE n1 cE) ∧ w'.cell? ⟨w.heap.size, 2, none⟩ = some (.slice aK n3 cK) ∧ w'.cell? ⟨w.heap.size + 1, 1, none⟩ = some (.slice bE n2 dE) ∧ w'.cell? ⟨w.heap.size + 1, 2, none⟩ = some (.slice bK n4 dK)) (exact ⟨cell_sat _ _ _, cell_sat _ _ _, cell_sat _ _ _, cell_sat _ _ _, cell_sat _ _ _⟩) (first
  | (refine step_append_sl E rfl (.tmp 7) (.tmp 9) rfl rfl rfl row0S (SE.out _ _ (takeI B)) (by unfold maxLen; omega) (by omega) ?_; intro a1 c1 w1 q1 z1; clear z1; rw [Nat.zero_add, List.nil_append] at q1; rw [Nat.zero_add]; haveI := q1.i)
  | (refine step_append_sl E rfl (.tmp 10) (.tmp 12) rfl rfl rfl (takeI (rw TEn 4 (.slice a1 n1 c1) (ecs a.ents))) (TE.out _ _ (takeI B)) (by unfold maxLen; omega) (by omega) ?_; intro a2 c2 w2 q2 z2; clear z2; haveI := q2.i)
  | (refine step_append_sl E1 rfl (.tmp 14) (.tmp 16) rfl rfl rfl row0S (SK.out _ _ (takeI B)) (by unfold maxLen; omega) (by omega) ?_; intro a3 c3 w3 q3 z3; clear z3; rw [Nat.zero_add, List.nil_append] at q3; rw [Nat.zero_add]; haveI := q3.i)
  | (refine step_append_sl E1 rfl (.tmp 17) (.tmp 19) rfl rfl rfl (takeI (rw TKd 4 (.slice a3 n3 c3) (kcs a.kids))) (TK.out _ _ (takeI B)) (by unfold maxLen; omega) (by omega) ?_; intro a4 c4 w4 q4 z4; clear z4; haveI := q4.i))
 all_goals
  go_wp2
  go_returns
  have e1 : ecs a.ents ++ ecs b.ents = ecs (both a b).ents := by simp [ecs, both]
  have e2 : kcs a.kids ++ kcs b.kids = kcs (both a b).kids := by simp [kcs, both]
  have r1 := ReadsR.rw q2 ⟨a2, c2, rfl⟩ (n := n1 + n2)
  have r2 := ReadsR.rw q4 ⟨a4, c4, rfl⟩ (n := n3 + n4)
  refine ⟨_, rw TEn 4 (.slice a2 (n1 + n2) c2) (ecs a.ents ++ ecs b.ents) * rw TKd 4 (.slice a4 (n3 + n4) c4) (kcs a.kids ++ kcs b.kids), rfl, ⟨_, _, rfl, ReadsR.left ?_, ReadsR.right ?_⟩, (keep4 _ _ _ _).eq (sep_assoc _ _ _).symm⟩
  · rw [← e1, show (both a b).ents.length = n1 + n2 from HL.out.1.symm]
    exact r1
  · rw [← e2, show (both a b).kids.length = n3 + n4 from HL.out.2.symm]
    exact r2
end Go.Proofs.YtfhbmblbidcmmaaGreat
