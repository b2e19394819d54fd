/-
  Of any pages in a file a root is found to be a tree just if it is one in the form of the document. No condition. (part 10)
-/
import Derived.Test.YtfhbmblbidcmmaaGreatRk8
import Derived.Test.YtfhbmblbidcmmaaGreatRk9
import Derived.BigQuiet
set_option linter.unusedSimpArgs false
set_option linter.unusedVariables false
namespace Go.Proofs.YtfhbmblbidcmmaaGreat
set_option linter.unusedSimpArgs false
set_option linter.unusedVariables false
open Go.RowKit Go.Sl Go.Dk Go.Tr
attribute [local go_sem ↓] Go.wp_at_zero Go.wp_at_succ
attribute [local go_sem] Go.Sl.cell_sat Go.Sl.frozen_sat
abbrev TEn : TypeId := 77
abbrev TKd : TypeId := 141
abbrev TNd : TypeId := 32
def ecs (l : List Ent) : List Value := l.flatMap erow
def kcs (l : List Kd) : List Value := l.flatMap krow
abbrev ReadsE (B : Assn) (v : Value) (l : List Ent) : Prop := ReadsR 4 B v l.length (ecs l)
abbrev ReadsK (B : Assn) (v : Value) (l : List Kd) : Prop := ReadsR 4 B v l.length (kcs l)
def ReadsN (B : Assn) (v : Value) (n : Nd) : Prop := ∃ vE vK, v = .agg #[.bool n.leaf, vE, vK] ∧ ReadsE B vE n.ents ∧ ReadsK B vK n.kids
theorem readsE_at {B : Assn} {a : Option Addr} {c : Nat} {l : List Ent} (h : ReadsE B (.slice a l.length c) l) {i : Nat} {x : Ent} (hi : l[i]? = some x) :
 ∃ b o, a = some ⟨b, o, none⟩ ∧ RdC B b (o + i * 4) (.int .i64 x.src) ∧ RdC B b (o + i * 4 + 1) (.int .i64 x.pos) ∧ RdC B b (o + i * 4 + 2) (.int .i64 x.len) ∧ RdC B b (o + i * 4 + 3) (.int .i64 x.lines) := by
 obtain ⟨b, o, e, r⟩ := ReadsR.row (f := erow) (fun _ => rfl) (by omega) h hi
 exact ⟨b, o, e, r 0 _ rfl, r 1 _ rfl, r 2 _ rfl, r 3 _ rfl⟩
theorem readsK_at {B : Assn} {a : Option Addr} {c : Nat} {l : List Kd} (h : ReadsK B (.slice a l.length c) l) {i : Nat} {x : Kd} (hi : l[i]? = some x) :
 ∃ b o, a = some ⟨b, o, none⟩ ∧ RdC B b (o + i * 4) (.int .i64 x.page) ∧ RdC B b (o + i * 4 + 1) (.int .i64 x.bytes) ∧ RdC B b (o + i * 4 + 2) (.int .i64 x.lines) ∧ RdC B b (o + i * 4 + 3) (.int .i64 x.scraps) := by
 obtain ⟨b, o, e, r⟩ := ReadsR.row (f := krow) (fun _ => rfl) (by omega) h hi
 exact ⟨b, o, e, r 0 _ rfl, r 1 _ rfl, r 2 _ rfl, r 3 _ rfl⟩
theorem eBytes_snoc {l : List Ent} {i : Nat} {x : Ent} (h : l[i]? = some x) : eBytes (l.take (i + 1)) = eBytes (l.take i) + x.len := by
 rw [take_snoc' h]; simp [eBytes]
theorem kBytes_snoc {l : List Kd} {i : Nat} {x : Kd} (h : l[i]? = some x) : kBytes (l.take (i + 1)) = kBytes (l.take i) + x.bytes := by
 rw [take_snoc' h]; simp [kBytes]
theorem kScraps_snoc {l : List Kd} {i : Nat} {x : Kd} (h : l[i]? = some x) : kScraps (l.take (i + 1)) = kScraps (l.take i) + x.scraps := by
 rw [take_snoc' h]; simp [kScraps]
theorem mayE_bounds {x : Ent} (h : mayEnt x = true) : 1 ≤ x.len ∧ x.len ≤ 1048576 := by
 unfold mayEnt at h
 simp only [decide_eq_true_eq] at h
 exact ⟨h.2.2.2.1, h.2.2.2.2.2.1⟩
theorem mayK_bounds {x : Kd} (h : mayKid x = true) : 1 ≤ x.bytes ∧ x.bytes ≤ 1048576 ∧ 1 ≤ x.scraps ∧ x.scraps ≤ x.bytes := by
 unfold mayKid at h
 simp only [decide_eq_true_eq] at h
 exact ⟨h.2.2.1, h.2.2.2.1, h.2.2.2.2.2.1, h.2.2.2.2.2.2⟩
theorem may_badE {n : Nd} {x : Ent} (hx : x ∈ n.ents) (h : n.leaf = false ∨ mayEnt x = false) : may n = false := by
 unfold may
 rw [if_pos (List.any_eq_true.2 ⟨x, hx, by rcases h with h | h <;> simp [h]⟩)]
theorem may_badK {n : Nd} {x : Kd} (hx : x ∈ n.kids) (h : n.leaf = true ∨ mayKid x = false) : may n = false := by
 unfold may
 split
 · rfl
 · rw [if_pos (List.any_eq_true.2 ⟨x, hx, by rcases h with h | h <;> simp [h]⟩)]
theorem may_good {n : Nd} (h1 : ∀ x ∈ n.ents, n.leaf = true ∧ mayEnt x = true) (h2 : ∀ x ∈ n.kids, n.leaf = false ∧ mayKid x = true) :
 may n = decide ((if n.leaf then 1 else 2) ≤ (if n.leaf then n.ents.length else n.kids.length) ∧ (if n.leaf then n.ents.length else n.kids.length) ≤ 12 ∧ eBytes n.ents + kBytes n.kids ≤ 1048576 ∧ kScraps n.kids ≤ 1024) := by
 unfold may
 rw [if_neg (by simp only [List.any_eq_true]; rintro ⟨x, hx, h⟩; have := h1 x hx; simp [this.1, this.2] at h), if_neg (by simp only [List.any_eq_true]; rintro ⟨x, hx, h⟩; have := h2 x hx; simp [this.1, this.2] at h)]
set_option maxRecDepth 100000 in
set_option maxHeartbeats 1600000 in
theorem may_any (n : Nd) (v : Value) (B F : Assn) (w : World) (hN : ReadsN B v n) (hs : Sat (B * F) w) (hle : n.ents.length ≤ 4294967296) (hlk : n.kids.length ≤ 4294967296) :
 Calls Tryz.prog 133 #[v] w fun e w' => e = .returned (.bool (may n)) ∧ Sat (B * F) w' := by
 obtain ⟨vE, vK, rfl, hE, hK⟩ := hN
 obtain ⟨aE, cE, rfl, hE1, hE2⟩ := hE.v
 obtain ⟨aK, cK, rfl, hK1, hK2⟩ := hK.v
 have HE : Aside (ReadsE B (.slice aE n.ents.length cE) n.ents) := hE
 have HK : Aside (ReadsK B (.slice aK n.kids.length cK) n.kids) := hK
 obtain ⟨mr, hmr⟩ : ∃ r, may n = r := ⟨_, rfl⟩
 have HR : Aside (may n = mr) := hmr
 rw [hmr]
 obtain ⟨lf, hlf⟩ : ∃ r, n.leaf = r := ⟨_, rfl⟩
 have HL : Aside (n.leaf = lf) := hlf
 rw [hlf]
 clear hE hK hmr hlf
 haveI := hs.i
 go_enter Tryz.func133, Tryz.ntmps133
 go_wp2
 go_loopg [3, 14] n.ents.length (fun g t3 t14 wr => ∃ (i : Nat) (su : Int), t14 = .int .i64 i ∧ t3 = .int .i64 su ∧ i ≤ n.ents.length ∧ 0 ≤ su ∧ su ≤ i * 1048576 ∧ Aside (g = n.ents.length - i ∧ su = eBytes (n.ents.take i) ∧ (∀ x ∈ n.ents.take i, lf = true ∧ mayEnt x = true)) ∧
  Sat (Sl.block w.heap.size TNd [.bool lf, .slice aE n.ents.length cE, .slice aK n.kids.length cK] * (B * F)) wr)
 case atStart => exact ⟨0, 0, rfl, rfl, by omega, by omega, by omega, ⟨rfl, by simp [eBytes], by simp⟩, satI⟩
 case round =>
  obtain ⟨i, su, rfl, rfl, hi, hsu0, hsu, A, hsr⟩ := hrel
  haveI := hsr.i
  by_cases hlt : i < n.ents.length
  · have hlt' : (i : Int) < n.ents.length := by omega
    obtain ⟨x, hx⟩ : ∃ x, n.ents[i]? = some x := ⟨_, List.getElem?_eq_getElem hlt⟩
    obtain ⟨b, o, rfl, r1, r2, r3, r4⟩ := readsE_at HE.out hx
    have HX : Aside (n.ents[i]? = some x) := hx
    obtain ⟨x1, x2, x3, x4⟩ := x
    clear hs hx
    cases lf with
    | false =>
      have HF : Aside (mr = false) := (by rw [← HR.out]; exact may_badE (List.mem_of_getElem? HX.out) (.inl HL.out) : _ = _)
      go_wp2
      go_ret
      exact ⟨by rw [HF.out]; rfl, keep2 B F⟩
    | true =>
      cases hm : mayEnt ⟨x1, x2, x3, x4⟩ with
      | false =>
        have HF : Aside (mr = false) := (by rw [← HR.out]; exact may_badE (List.mem_of_getElem? HX.out) (.inr hm) : _ = _)
        have hc := fun F w h => mayEnt_any x1 x2 x3 x4 F w h
        rw [hm] at hc
        clear hm
        go_wp2_with (go_at_call 162; refine (hc _ _ satI).mono ?_; rintro e w' ⟨rfl, hs2⟩; haveI := hs2.i)
        go_ret
        exact ⟨by rw [HF.out]; rfl, keep2 B F⟩
      | true =>
        have HM : Aside (mayEnt ⟨x1, x2, x3, x4⟩ = true) := hm
        have hc := fun F w h => mayEnt_any x1 x2 x3 x4 F w h
        rw [hm] at hc
        have hb := mayE_bounds hm
        simp only at hb
        clear hm
        go_wp2_with (go_at_call 162; refine (hc _ _ satI).mono ?_; rintro e w' ⟨rfl, hs2⟩; haveI := hs2.i)
        go_roundg (n.ents.length - (i + 1))
        case measure => have := A.out.1; omega
        case rel =>
         refine ⟨i + 1, su + x3, by go_num, rfl, by omega, by omega, by omega, ⟨rfl, ?_, ?_⟩, ?_⟩
         · rw [eBytes_snoc HX.out, A.out.2.1]
         · rw [take_snoc' HX.out]
           intro y hy
           rcases List.mem_append.1 hy with hy | hy
           · exact A.out.2.2 y hy
           · simp at hy; subst hy; exact ⟨trivial, HM.out⟩
         · exact keep3 _ B F
  · have hlt' : ¬ (i : Int) < n.ents.length := by omega
    have hE3 : n.ents.take i = n.ents := List.take_of_length_le (by omega)
    have HE3 : Aside (su = eBytes n.ents ∧ ∀ x ∈ n.ents, lf = true ∧ mayEnt x = true) := (by have := A.out.2; rw [hE3] at this; exact this : _ ∧ _)
    clear A hE3 hs HE
    go_wp2
    go_loopg [3, 4, 35] n.kids.length (fun g t3 t4 t35 wq => ∃ (j : Nat) (sk ss : Int), t35 = .int .i64 j ∧ t3 = .int .i64 (su + sk) ∧ t4 = .int .i64 ss ∧ j ≤ n.kids.length ∧ 0 ≤ sk ∧ sk ≤ j * 1048576 ∧ 0 ≤ ss ∧ ss ≤ j * 1048576 ∧ Aside (g = n.kids.length - j ∧ sk = kBytes (n.kids.take j) ∧ ss = kScraps (n.kids.take j) ∧ (∀ x ∈ n.kids.take j, lf = false ∧ mayKid x = true)) ∧
     Sat (Sl.block w.heap.size TNd [.bool lf, .slice aE n.ents.length cE, .slice aK n.kids.length cK] * (B * F)) wq)
    case atStart => exact ⟨0, 0, 0, rfl, by simp, rfl, by omega, by omega, by omega, by omega, by omega, ⟨rfl, by simp [kBytes], by simp [kScraps], by simp⟩, satI⟩
    case round =>
     obtain ⟨j, sk, ss, rfl, rfl, rfl, hj, hk0, hk, hs0, hs1, A, hsq⟩ := hrel
     clear hsr
     haveI := hsq.i
     by_cases hlt : j < n.kids.length
     · have hlt' : (j : Int) < n.kids.length := by omega
       obtain ⟨x, hx⟩ : ∃ x, n.kids[j]? = some x := ⟨_, List.getElem?_eq_getElem hlt⟩
       obtain ⟨b, o, rfl, r1, r2, r3, r4⟩ := readsK_at HK.out hx
       have HX : Aside (n.kids[j]? = some x) := hx
       obtain ⟨x1, x2, x3, x4⟩ := x
       clear hx
       cases lf with
       | true =>
         have HF : Aside (mr = false) := (by rw [← HR.out]; exact may_badK (List.mem_of_getElem? HX.out) (.inl HL.out) : _ = _)
         go_wp2
         go_ret
         exact ⟨by rw [HF.out]; rfl, keep2 B F⟩
       | false =>
         cases hm : mayKid ⟨x1, x2, x3, x4⟩ with
         | false =>
           have HF : Aside (mr = false) := (by rw [← HR.out]; exact may_badK (List.mem_of_getElem? HX.out) (.inr hm) : _ = _)
           have hc := fun F w h => mayKid_any x1 x2 x3 x4 F w h
           rw [hm] at hc
           clear hm
           go_wp2_with (go_at_call 163; refine (hc _ _ satI).mono ?_; rintro e w' ⟨rfl, hs2⟩; haveI := hs2.i)
           go_ret
           exact ⟨by rw [HF.out]; rfl, keep2 B F⟩
         | true =>
           have HM : Aside (mayKid ⟨x1, x2, x3, x4⟩ = true) := hm
           have hc := fun F w h => mayKid_any x1 x2 x3 x4 F w h
           rw [hm] at hc
           have hb := mayK_bounds hm
           simp only at hb
           clear hm
           go_wp2_with (go_at_call 163; refine (hc _ _ satI).mono ?_; rintro e w' ⟨rfl, hs2⟩; haveI := hs2.i)
           go_roundg (n.kids.length - (j + 1))
           case measure => have := A.out.1; omega
           case rel =>
            refine ⟨j + 1, sk + x2, ss + x4, by go_num, by go_num, rfl, by omega, by omega, by omega, by omega, by omega, ⟨rfl, ?_, ?_, ?_⟩, ?_⟩
            · rw [kBytes_snoc HX.out, A.out.2.1]
            · rw [kScraps_snoc HX.out, A.out.2.2.1]
            · rw [take_snoc' HX.out]
              intro y hy
              rcases List.mem_append.1 hy with hy | hy
              · exact A.out.2.2.2 y hy
              · simp at hy; subst hy; exact ⟨trivial, HM.out⟩
            · exact keep3 _ B F
     · have hlt' : ¬ (j : Int) < n.kids.length := by omega
       have hK3 : n.kids.take j = n.kids := List.take_of_length_le (by omega)
       have HF : Aside (mr = decide ((if lf then 1 else 2) ≤ (if lf then n.ents.length else n.kids.length) ∧ (if lf then n.ents.length else n.kids.length) ≤ 12 ∧ su + sk ≤ 1048576 ∧ ss ≤ 1024)) := (by
        have h1 := A.out.2
        rw [hK3] at h1
        rw [← HR.out, HE3.out.1, h1.1, h1.2.1, ← HL.out]
        exact may_good (by rw [HL.out]; exact HE3.out.2) (by rw [HL.out]; exact h1.2.2) : _ = _)
       clear A hK3 HK HE3
       cases lf with
       | true =>
         simp only [if_true, Bool.false_eq_true, if_false] at HF
         by_cases c0 : 1 ≤ n.ents.length
         · have d0 : decide ((1 : Int) ≤ n.ents.length) = true := by simpa using (by omega : (1 : Int) ≤ n.ents.length)
           by_cases c1 : n.ents.length ≤ 12
           · have d1 : decide ((n.ents.length : Int) ≤ 12) = true := by simpa using (by omega : (n.ents.length : Int) ≤ 12)
             by_cases c2 : su + sk ≤ 1048576
             · have d2 : decide (su + sk ≤ 1048576) = true := by simpa using (by omega : su + sk ≤ 1048576)
               by_cases c3 : ss ≤ 1024
               · have d3 : decide (ss ≤ 1024) = true := by simpa using (by omega : ss ≤ 1024)
                 have HF2 : Aside (mr = true) := (by rw [HF.out]; exact decide_eq_true ⟨c0, c1, c2, c3⟩ : _ = _)
                 clear HF c0 c1 c2 c3
                 go_wp2_with fail
                 go_quiet (fail)
                 go_wp2_with fail
                 go_quiet (fail)
                 go_wp2
                 go_ret
                 exact ⟨by rw [HF2.out]; rfl, keep2 B F⟩
               · have d3 : decide (ss ≤ 1024) = false := by simpa using (by omega : ¬ ss ≤ 1024)
                 have HF2 : Aside (mr = false) := (by rw [HF.out]; exact decide_eq_false (fun h => c3 h.2.2.2) : _ = _)
                 clear HF c0 c1 c2 c3
                 go_wp2_with fail
                 go_quiet (fail)
                 go_wp2_with fail
                 go_quiet (fail)
                 go_wp2
                 go_ret
                 exact ⟨by rw [HF2.out]; rfl, keep2 B F⟩
             · have d2 : decide (su + sk ≤ 1048576) = false := by simpa using (by omega : ¬ su + sk ≤ 1048576)
               have HF2 : Aside (mr = false) := (by rw [HF.out]; exact decide_eq_false (fun h => c2 h.2.2.1) : _ = _)
               clear HF c0 c1 c2
               go_wp2_with fail
               go_quiet (fail)
               go_wp2_with fail
               go_quiet (fail)
               go_wp2
               go_ret
               exact ⟨by rw [HF2.out]; rfl, keep2 B F⟩
           · have d1 : decide ((n.ents.length : Int) ≤ 12) = false := by simpa using (by omega : ¬ (n.ents.length : Int) ≤ 12)
             have HF2 : Aside (mr = false) := (by rw [HF.out]; exact decide_eq_false (fun h => c1 h.2.1) : _ = _)
             clear HF c0 c1
             go_wp2_with fail
             go_quiet (fail)
             go_wp2_with fail
             go_quiet (fail)
             go_wp2
             go_ret
             exact ⟨by rw [HF2.out]; rfl, keep2 B F⟩
         · have d0 : decide ((1 : Int) ≤ n.ents.length) = false := by simpa using (by omega : ¬ (1 : Int) ≤ n.ents.length)
           have HF2 : Aside (mr = false) := (by rw [HF.out]; exact decide_eq_false (fun h => c0 h.1) : _ = _)
           clear HF c0
           go_wp2_with fail
           go_quiet (fail)
           go_wp2_with fail
           go_quiet (fail)
           go_wp2
           go_ret
           exact ⟨by rw [HF2.out]; rfl, keep2 B F⟩
       | false =>
         simp only [if_true, Bool.false_eq_true, if_false] at HF
         by_cases c0 : 2 ≤ n.kids.length
         · have d0 : decide ((2 : Int) ≤ n.kids.length) = true := by simpa using (by omega : (2 : Int) ≤ n.kids.length)
           by_cases c1 : n.kids.length ≤ 12
           · have d1 : decide ((n.kids.length : Int) ≤ 12) = true := by simpa using (by omega : (n.kids.length : Int) ≤ 12)
             by_cases c2 : su + sk ≤ 1048576
             · have d2 : decide (su + sk ≤ 1048576) = true := by simpa using (by omega : su + sk ≤ 1048576)
               by_cases c3 : ss ≤ 1024
               · have d3 : decide (ss ≤ 1024) = true := by simpa using (by omega : ss ≤ 1024)
                 have HF2 : Aside (mr = true) := (by rw [HF.out]; exact decide_eq_true ⟨c0, c1, c2, c3⟩ : _ = _)
                 clear HF c0 c1 c2 c3
                 go_wp2_with fail
                 go_quiet (fail)
                 go_wp2
                 go_ret
                 exact ⟨by rw [HF2.out]; rfl, keep2 B F⟩
               · have d3 : decide (ss ≤ 1024) = false := by simpa using (by omega : ¬ ss ≤ 1024)
                 have HF2 : Aside (mr = false) := (by rw [HF.out]; exact decide_eq_false (fun h => c3 h.2.2.2) : _ = _)
                 clear HF c0 c1 c2 c3
                 go_wp2_with fail
                 go_quiet (fail)
                 go_wp2
                 go_ret
                 exact ⟨by rw [HF2.out]; rfl, keep2 B F⟩
             · have d2 : decide (su + sk ≤ 1048576) = false := by simpa using (by omega : ¬ su + sk ≤ 1048576)
               have HF2 : Aside (mr = false) := (by rw [HF.out]; exact decide_eq_false (fun h => c2 h.2.2.1) : _ = _)
               clear HF c0 c1 c2
               go_wp2_with fail
               go_quiet (fail)
               go_wp2
               go_ret
               exact ⟨by rw [HF2.out]; rfl, keep2 B F⟩
           · have d1 : decide ((n.kids.length : Int) ≤ 12) = false := by simpa using (by omega : ¬ (n.kids.length : Int) ≤ 12)
             have HF2 : Aside (mr = false) := (by rw [HF.out]; exact decide_eq_false (fun h => c1 h.2.1) : _ = _)
             clear HF c0 c1
             go_wp2_with fail
             go_quiet (fail)
             go_wp2
             go_ret
             exact ⟨by rw [HF2.out]; rfl, keep2 B F⟩
         · have d0 : decide ((2 : Int) ≤ n.kids.length) = false := by simpa using (by omega : ¬ (2 : Int) ≤ n.kids.length)
           have HF2 : Aside (mr = false) := (by rw [HF.out]; exact decide_eq_false (fun h => c0 h.1) : _ = _)
           clear HF c0
           go_wp2_with fail
           go_quiet (fail)
           go_wp2
           go_ret
           exact ⟨by rw [HF2.out]; rfl, keep2 B F⟩
end Go.Proofs.YtfhbmblbidcmmaaGreat
namespace Go.Proofs.YtfhbmblbidcmmaaGreat
set_option linter.unusedSimpArgs false
set_option linter.unusedVariables false
open Go.RowKit Go.Sl Go.Dk Go.Tr Go.ChangeShapes Go.WideShapes
theorem rowsE_map {α : Type} {f : α → List Value} : ∀ l : List (List Value), (∀ r ∈ l, ∃ c, r = f c) → ∃ cs : List α, l = cs.map f
 | [], _ => ⟨[], rfl⟩
 | r :: l, hl => by
   obtain ⟨c, rfl⟩ := hl r (by simp)
   obtain ⟨cs, rfl⟩ := rowsE_map l fun r' hr' => hl r' (by simp [hr'])
   exact ⟨c :: cs, rfl⟩
theorem four_of {r : List Value} (h : r.length = 4) : ∃ a b c d, r = [a, b, c, d] := by
 match r, h with
 | [a, b, c, d], _ => exact ⟨a, b, c, d, rfl⟩
theorem readsE_old {w : World} {a : Option Addr} {cap : Nat} {l : List Ent} (h : Rws w (.slice a l.length cap) 4 (l.map erow)) (h1 : l.length ≤ cap) (h2 : cap ≤ 9223372036854775807) : ReadsE (old w) (.slice a l.length cap) l := by
 have hl4 : (ecs l).length = l.length * 4 := flatV_len (f := erow) (fun _ => rfl) l
 refine ⟨hl4, a, cap, rfl, h1, h2, fun j u hj => ?_⟩
 have hjl : j < l.length * 4 := by
  rw [← hl4]
  exact (List.getElem?_eq_some_iff.1 hj).1
 obtain ⟨x, hx⟩ : ∃ x, l[j / 4]? = some x := ⟨_, List.getElem?_eq_getElem (by omega)⟩
 have hf := flat_at (f := erow) (s := 4) (fun _ => rfl) l (j / 4) (j % 4) x hx (by omega)
 have ej : j / 4 * 4 + j % 4 = j := by omega
 rw [ej] at hf
 obtain ⟨b, o, rfl, h6⟩ := h.at (i := j / 4) (r := erow x) (by simp [hx])
 refine ⟨b, o, rfl, ?_⟩
 have h7 := h6 (j % 4) u (hf.symm.trans hj)
 rw [Nat.add_assoc, ej] at h7
 haveI : OldAt w b (o + j) u := ⟨h7⟩
 exact inferInstance
theorem fieldE_at {H : Type} {enc : TypeId × Value → H} {w : World} {base : Nat} {spare : Nat → Bool} {held : Bool} {t fuel : Nat} {r : List Value} {x : DataW H × List MemPlace} {fs : Array Field}
 (ht : Tryz.prog.underlying t = some (.struct fs)) (h : DataW.trod enc Tryz.prog w base spare held fuel t r = some x) (i ty off c : Nat) (hf : (fs[i]?).map (fun f => (f.type, f.offset)) = some (ty, off)) (hc : Tryz.prog.cellsOf ty = c) :
 ∃ n y, DataW.trod enc Tryz.prog w base spare held n ty ((r.drop off).take c) = some y := by
 obtain ⟨_, n, h2⟩ := field_of_trod ht h
 obtain ⟨f, h3, h4⟩ := Option.map_eq_some_iff.1 hf
 obtain ⟨y, h5⟩ := h2 i f h3
 cases h4
 rw [hc] at h5
 exact ⟨n, y, h5⟩
theorem entries_in {H : Type} {enc : TypeId × Value → H} {w : World} {base : Nat} {spare : Nat → Bool} {held : Bool} {a : Option Addr} {len cap : Nat}
 (h : ∃ fuel x, DataW.trod enc Tryz.prog w base spare held fuel 29 [.slice a len cap] = some x) :
 ∃ l : List Ent, l.length = len ∧ ReadsE (old w) (.slice a len cap) l := by
 obtain ⟨fuel, x, hx⟩ := h
 have hcap : len ≤ cap ∧ cap ≤ maxLen := by
  rcases DataW.trod_slice Tryz.underlying29 hx with ⟨h0, _⟩ | ⟨a', len', cap', elems, rest, n, _, h1, _, _, h2, h3, _⟩
  · simp only [List.cons.injEq, Value.slice.injEq, and_true] at h0
    obtain ⟨_, rfl, rfl⟩ := h0
    exact ⟨Nat.le_refl _, by unfold maxLen; decide⟩
  · simp only [List.cons.injEq, Value.slice.injEq, and_true] at h1
    obtain ⟨_, rfl, rfl⟩ := h1
    exact ⟨h2, h3⟩
 have e4 : Tryz.prog.cellsOf TEn = 4 := by kernel_rfl
 have e3 : Tryz.prog.cellsOf 75 = 3 := by kernel_rfl
 have e1 : Tryz.prog.cellsOf 3 = 1 := by kernel_rfl
 obtain ⟨rs, h1, h2, h3, h4⟩ := rows_of_trod (s := 4) Tryz.underlying29 e4 (by omega) hx
 obtain ⟨l, rfl⟩ := rowsE_map (f := erow) rs (by
  intro r hr
  obtain ⟨n, y, hy⟩ := h4 r hr
  obtain ⟨hl, n', hf⟩ := field_of_trod Tryz.underlying77 hy
  obtain ⟨v0, v1, v2, v3, rfl⟩ := four_of (hl.trans e4)
  obtain ⟨_, y0, f0⟩ := fieldE_at Tryz.underlying77 hy 0 75 0 3 rfl e3
  obtain ⟨_, y1, f1⟩ := fieldE_at Tryz.underlying77 hy 1 3 3 1 rfl e1
  obtain ⟨_, y2, g0⟩ := fieldE_at Tryz.underlying75 f0 0 3 0 1 rfl e1
  obtain ⟨_, y3, g1⟩ := fieldE_at Tryz.underlying75 f0 1 3 1 1 rfl e1
  obtain ⟨_, y4, g2⟩ := fieldE_at Tryz.underlying75 f0 2 3 2 1 rfl e1
  obtain ⟨z0, rfl, _⟩ := int_of_trod Tryz.underlying3 g0
  obtain ⟨z1, rfl, _⟩ := int_of_trod Tryz.underlying3 g1
  obtain ⟨z2, rfl, _⟩ := int_of_trod Tryz.underlying3 g2
  obtain ⟨z3, rfl, _⟩ := int_of_trod Tryz.underlying3 f1
  exact ⟨⟨z0, z1, z2, z3⟩, rfl⟩)
 have hlen : l.length = len := by simpa using h2
 subst hlen
 exact ⟨l, rfl, readsE_old h1 hcap.1 hcap.2⟩
end Go.Proofs.YtfhbmblbidcmmaaGreat
