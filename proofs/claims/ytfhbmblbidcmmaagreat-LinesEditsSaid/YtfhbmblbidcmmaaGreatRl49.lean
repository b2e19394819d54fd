/-
  Walks and plain laws that the lines of texts lean on. No condition (part 49)
-/
import Derived.Test.YtfhbmblbidcmmaaGreatRl42
import Derived.Test.YtfhbmblbidcmmaaGreatRl40
import Derived.Test.YtfhbmblbidcmmaaGreatRl47
import Derived.Test.YtfhbmblbidcmmaaGreatRl8
import Derived.Test.YtfhbmblbidcmmaaGreatRl19
import Derived.Test.YtfhbmblbidcmmaaGreatRl35
import Derived.Deep.DrawnRows
import Derived.BigQuiet
set_option linter.unusedSimpArgs false
set_option linter.unusedVariables false
namespace Go.Tr
set_option linter.unusedSimpArgs false
set_option linter.unusedVariables false
structure PartT where
 src : Int
 pos : Int
 len : Int
 cnt : Bool
section
variable (O T : List UInt8)
def fromP (p : PartT) : List UInt8 := srcF O T (p.src % 2)
def atP (p : PartT) : Int := p.pos % (fromP O T p).length
def lenP (p : PartT) : Int := 1 + p.len % (min 500 ((fromP O T p).length - atP O T p))
def entP (p : PartT) : Ent := ⟨p.src % 2, atP O T p, lenP O T p, if p.cnt = true ∧ p.src % 2 = 1 then endsC (((fromP O T p).drop (atP O T p).toNat).take (lenP O T p).toNat) else -1⟩
def entOf (p : PartT) : List Ent := if (fromP O T p).length = 0 then [] else [entP O T p]
def listP (ps : List PartT) : List Ent := (ps.take 200).flatMap (entOf O T)
end
variable {O T : List UInt8}
theorem entP_at {p : PartT} (h : (fromP O T p).length ≠ 0) : 0 ≤ atP O T p ∧ atP O T p < (fromP O T p).length ∧ 1 ≤ lenP O T p ∧ lenP O T p ≤ 500 ∧ atP O T p + lenP O T p ≤ (fromP O T p).length := by
 have h1 : 0 ≤ atP O T p := Int.emod_nonneg _ (by omega)
 have h2 : atP O T p < (fromP O T p).length := Int.emod_lt_of_pos _ (by omega)
 have h3 : 0 ≤ p.len % (min 500 ((fromP O T p).length - atP O T p)) := Int.emod_nonneg _ (by omega)
 have h4 : p.len % (min 500 ((fromP O T p).length - atP O T p)) < min 500 ((fromP O T p).length - atP O T p) := Int.emod_lt_of_pos _ (by omega)
 unfold lenP
 refine ⟨h1, h2, by omega, by omega, by omega⟩
theorem entOf_ok {p : PartT} (hO : O.length ≤ 3000) (hT : T.length ≤ 3000) {x : Ent} (hx : x ∈ entOf O T p) : RtE O T x ∧ mayEnt x = true ∧ 1 ≤ x.len ∧ x.len ≤ 500 := by
 unfold entOf at hx
 by_cases hz : (fromP O T p).length = 0
 · rw [if_pos hz] at hx; cases hx
 · rw [if_neg hz] at hx
   simp only [List.mem_singleton] at hx
   subst hx
   obtain ⟨a1, a2, a3, a4, a5⟩ := entP_at hz
   have hf : (fromP O T p).length ≤ 3000 := by
    unfold fromP srcF
    split <;> assumption
   have hr : RtE O T (entP O T p) := by
    refine ⟨a1, by show 0 ≤ lenP O T p; omega, a5, ?_⟩
    show (if _ then _ else _) = _ ∨ (if _ then _ else _) = _
    split
    · exact .inr rfl
    · exact .inl rfl
   refine ⟨hr, ?_, a3, a4⟩
   rw [mayE_iff]
   have hl := endsC_le (pieceE O T (entP O T p))
   rw [pieceE_len hr] at hl
   have hln := hr.lines
   have e1 : (entP O T p).len = lenP O T p := rfl
   have e2 : (entP O T p).pos = atP O T p := rfl
   have e3 : (entP O T p).src = p.src % 2 := rfl
   rw [e1] at hl
   refine ⟨by omega, by omega, by omega, by omega, by omega, by omega, ?_, ?_⟩
   · rcases hln with h | h <;> omega
   · by_cases hs : p.src % 2 = 1
     · exact .inl hs
     · right
       show (if p.cnt = true ∧ p.src % 2 = 1 then _ else _) = _
       rw [if_neg fun h => hs h.2]
theorem listP_ok (hO : O.length ≤ 3000) (hT : T.length ≤ 3000) (ps : List PartT) : (∀ x ∈ listP O T ps, RtE O T x ∧ mayEnt x = true ∧ 1 ≤ x.len ∧ x.len ≤ 500) ∧ (listP O T ps).length ≤ 200 := by
  constructor
  · intro x hx
    obtain ⟨p, _, h⟩ := List.mem_flatMap.1 hx
    exact entOf_ok hO hT h
  · unfold listP
    have h1 : ∀ l : List PartT, (l.flatMap (entOf O T)).length ≤ l.length := by
      intro l
      induction l with
      | nil => simp
      | cons p l ih =>
        have : (entOf O T p).length ≤ 1 := by unfold entOf; split <;> simp
        rw [List.flatMap_cons, List.length_append, List.length_cons]
        omega
    have h2 := h1 (ps.take 200)
    have h3 : (ps.take 200).length ≤ 200 := by rw [List.length_take]; omega
    omega
theorem eB_le500 {l : List Ent} (h : ∀ x ∈ l, 1 ≤ x.len ∧ x.len ≤ 500) : 0 ≤ eBytes l ∧ eBytes l ≤ 500 * l.length := by
  induction l with
  | nil => exact ⟨Int.le_refl _, Int.le_refl _⟩
  | cons x l ih =>
    have h1 := h x (by simp)
    have h2 := ih fun y hy => h y (by simp [hy])
    have e : eBytes (x :: l) = x.len + eBytes l := by simp [eBytes]
    rw [e, List.length_cons]
    omega
theorem listP_may (hO : O.length ≤ 3000) (hT : T.length ≤ 3000) (ps : List PartT) : mayList (listP O T ps) = true := by
  obtain ⟨h1, h2⟩ := listP_ok hO hT ps
  obtain ⟨h3, h4⟩ := eB_le500 (l := listP O T ps) fun x hx => ⟨(h1 x hx).2.2.1, (h1 x hx).2.2.2⟩
  show ((listP O T ps).all mayEnt && decide (eBytes (listP O T ps) ≤ 1048576)) = true
  simp only [Bool.and_eq_true, List.all_eq_true, decide_eq_true_eq]
  exact ⟨fun x hx => (h1 x hx).2.1, by omega⟩
end Go.Tr
namespace Go.Proofs.YtfhbmblbidcmmaaGreat
set_option linter.unusedSimpArgs false
set_option linter.unusedVariables false
open Go.RowKit Go.Sl Go.Dk Go.Tr
attribute [local go_sem ↓] Go.wp_at_zero Go.wp_at_succ
attribute [local go_sem] Go.Sl.cell_sat Go.Sl.frozen_sat
abbrev TFi : TypeId := 52
def ptrow (p : PartT) : List Value := [.int .i64 p.src, .int .i64 p.pos, .int .i64 p.len, .bool p.cnt]
def pcs (l : List PartT) : List Value := l.flatMap ptrow
abbrev ReadsP (B : Assn) (v : Value) (l : List PartT) : Prop := ReadsR 4 B v l.length (pcs l)
theorem readsP_at {B : Assn} {a : Option Addr} {c : Nat} {l : List PartT} (h : ReadsP B (.slice a l.length c) l) {i : Nat} {x : PartT} (hi : l[i]? = some x) :
 ∃ b o, a = some ⟨b, o, none⟩ ∧ RdC B b (o + i * 4) (.int .i64 x.src) ∧ RdC B b (o + i * 4 + 1) (.int .i64 x.pos) ∧ RdC B b (o + i * 4 + 2) (.int .i64 x.len) ∧ RdC B b (o + i * 4 + 3) (.bool x.cnt) := by
 obtain ⟨b, o, e, r⟩ := ReadsR.row (f := ptrow) (fun _ => rfl) (by omega) h hi
 exact ⟨b, o, e, r 0 _ rfl, r 1 _ rfl, r 2 _ rfl, r 3 _ rfl⟩
theorem Reads.cut {B : Assn} {a : Option Addr} {n c : Nat} {l : List UInt8} (h : Reads B (.slice a n c) l) (lo hi : Nat) (h1 : lo ≤ hi) (h2 : hi ≤ n) : Reads B (.slice (cutA a c lo 1) (hi - lo) (c - lo)) ((l.drop lo).take (hi - lo)) :=
 fun F w hs => (h F w hs).cut lo hi h1 h2
theorem readsB {B : Assn} {v : Value} {l : List UInt8} (hB : Reads B v l) {F : Assn} {w : World} (hs : Sat (B * F) w) : ∃ a c, v = .slice a l.length c ∧ l.length ≤ c ∧ c ≤ 9223372036854775807 := by
 obtain ⟨a, c, h1, h2, h3⟩ := (hB F w hs).len
 exact ⟨a, c, h1, h2, by simpa [maxLen] using h3⟩
set_option maxHeartbeats 800000 in
theorem long_any (aO aT : Option Addr) (nO cO nT cT : Nat) (F : Assn) (w : World) (hs : Sat F w) :
 Calls Tryz.prog 19 #[.agg #[.slice aO nO cO, .slice aT nT cT]] w fun e w' => e = .returned (.bool (decide (3000 < nO ∨ 3000 < nT))) ∧ Sat F w' := by
 haveI := hs.i
 by_cases h1 : 3000 < nO
 · have h1' : (3000 : Int) < (nO : Int) := by omega
   rw [decide_eq_true (.inl h1)]
   go_enter Tryz.func19, Tryz.ntmps19
   go_wp2
   go_ret
   exact ⟨rfl, Sat.weak (B := Sl.block w.heap.size TFi [.slice aO nO cO, .slice aT nT cT]) (satI_eq (by ac_rfl))⟩
 · have h1' : ¬ (3000 : Int) < (nO : Int) := by omega
   by_cases h2 : 3000 < nT
   · have h2' : (3000 : Int) < (nT : Int) := by omega
     rw [decide_eq_true (.inr h2)]
     go_enter Tryz.func19, Tryz.ntmps19
     go_wp2
     go_ret
     exact ⟨rfl, Sat.weak (B := Sl.block w.heap.size TFi [.slice aO nO cO, .slice aT nT cT]) (satI_eq (by ac_rfl))⟩
   · have h2' : ¬ (3000 : Int) < (nT : Int) := by omega
     rw [decide_eq_false (by omega)]
     go_enter Tryz.func19, Tryz.ntmps19
     go_wp2
     go_ret
     exact ⟨rfl, Sat.weak (B := Sl.block w.heap.size TFi [.slice aO nO cO, .slice aT nT cT]) (satI_eq (by ac_rfl))⟩
theorem listP_snoc {O T : List UInt8} {ps : List PartT} {j : Nat} {p : PartT} (h : ps[j]? = some p) : (ps.take (j + 1)).flatMap (entOf O T) = (ps.take j).flatMap (entOf O T) ++ entOf O T p := by
 rw [take_snoc' h, List.flatMap_append]
 simp
theorem listP_le {O T : List UInt8} (ps : List PartT) : (ps.flatMap (entOf O T)).length ≤ ps.length := by
 induction ps with
 | nil => simp
 | cons p l ih =>
   have : (entOf O T p).length ≤ 1 := by unfold entOf; split <;> simp
   rw [List.flatMap_cons, List.length_append, List.length_cons]
   omega
theorem text500 {O T : List UInt8} (hO : O.length ≤ 3000) (hT : T.length ≤ 3000) (ps : List PartT) : (textE O T (ps.flatMap (entOf O T))).length ≤ 500 * ps.length := by
 induction ps with
 | nil => simp [textE]
 | cons p l ih =>
   rw [List.flatMap_cons, textE_app, List.length_append, List.length_cons]
   have : (textE O T (entOf O T p)).length ≤ 500 := by
    unfold entOf
    split
    · simp [textE]
    · rename_i hz
      have h1 := entOf_ok (O := O) (T := T) (p := p) hO hT (x := entP O T p) (by unfold entOf; rw [if_neg hz]; simp)
      have e : textE O T [entP O T p] = pieceE O T (entP O T p) := by simp [textE]
      rw [e, pieceE_len h1.1]
      have := h1.2.2.2
      omega
   omega
theorem srcF0 (O T : List UInt8) : srcF O T 0 = O := rfl
theorem srcF1 (O T : List UInt8) : srcF O T 1 = T := rfl
set_option maxRecDepth 100000 in
set_option maxHeartbeats 6400000 in
theorem list15_any (O T : List UInt8) (aO aT : Option Addr) (nO cO nT cT : Nat) (vp : Value) (ps : List PartT) (B F : Assn) (w : World) (hBO : Reads B (.slice aO nO cO) O) (hBT : Reads B (.slice aT nT cT) T) (hP : ReadsP B vp ps) (hs : Sat (B * F) w) (hO : O.length ≤ 3000) (hT : T.length ≤ 3000) :
 Calls Tryz.prog 22 #[.agg #[.slice aO nO cO, .slice aT nT cT], vp] w fun e w' => ∃ al cl at_ ct, e = .returned (.tuple #[.slice al (listP O T ps).length cl, .slice at_ (textE O T (listP O T ps)).length ct]) ∧
  Sat (rw TEn 4 (.slice al (listP O T ps).length cl) (ecs (listP O T ps)) * (rw TB 1 (.slice at_ (textE O T (listP O T ps)).length ct) (bys (textE O T (listP O T ps))) * (B * F))) w' := by
 obtain ⟨i0, E⟩ := elemEn
 obtain ⟨i1, EB⟩ := elemB
 obtain ⟨hnO, hnO1, hnO2⟩ := (hBO _ _ hs).n
 obtain ⟨hnT, hnT1, hnT2⟩ := (hBT _ _ hs).n
 obtain ⟨ap, cp, rfl, hp1, hp2⟩ := ReadsR.v hP
 obtain ⟨np, hnp⟩ : ∃ np, ps.length = np := ⟨_, rfl⟩
 have HP : Aside (ReadsP B (.slice ap ps.length cp) ps ∧ ps.length = np) := ⟨hP, hnp⟩
 have HB : Aside (Reads B (.slice aO nO cO) O ∧ Reads B (.slice aT nT cT) T ∧ nO = O.length ∧ nT = T.length) := ⟨hBO, hBT, hnO, hnT⟩
 rw [← hnO] at hO
 rw [← hnT] at hT
 have hcO : cO ≤ 9223372036854775807 := by simpa [maxLen] using hnO2
 have hcT : cT ≤ 9223372036854775807 := by simpa [maxLen] using hnT2
 rw [hnp] at hp1 ⊢
 obtain ⟨RL, hRL⟩ : ∃ RL, listP O T ps = RL := ⟨_, rfl⟩
 rw [hRL]
 obtain ⟨RT, hRT⟩ : ∃ RT, textE O T RL = RT := ⟨_, rfl⟩
 rw [hRT]
 have HL : Aside (RL = (ps.take 200).flatMap (entOf O T) ∧ textE O T RL = RT) := ⟨hRL.symm, hRT⟩
 clear hRL hRT
 have q0 := (hs.rw_nil (e := TB) (s := 1)).rw_nil (e := TEn) (s := 4)
 haveI := q0.i
 clear hs hBO hBT hP hnp hnO hnT hnO2 hnT2
 go_enter Tryz.func22, Tryz.ntmps22
 go_wp2
 have q1 : Sat (rw TEn 4 (.slice none 0 0) [] * (rw TB 1 (.slice none 0 0) [] * (B * (Sl.block w.heap.size TFi [.slice aO nO cO, .slice aT nT cT] * F)))) (w.alloc (.cells #[.slice aO nO cO, .slice aT nT cT] TFi)) := satI_eq (by ac_rfl)
 obtain ⟨N, hN⟩ : ∃ N, w.heap.size = N := ⟨_, rfl⟩
 rw [hN] at q1 ⊢
 go_loopg [6, 7, 8] 200 (fun g t6 t7 t8 wr => ∃ (j nl nt : Nat) (al at_ : Option Addr) (cl ct : Nat) (es : List Ent) (tx : List UInt8), t8 = .int .i64 j ∧ t6 = .slice al nl cl ∧ t7 = .slice at_ nt ct ∧ j ≤ 200 ∧ j ≤ np ∧ nl ≤ j ∧ nt ≤ 500 * j ∧ Aside (g = 200 - j ∧ es = (ps.take j).flatMap (entOf O T) ∧ es.length = nl ∧ tx = textE O T es ∧ tx.length = nt) ∧
  Sat (rw TEn 4 (.slice al nl cl) (ecs es) * (rw TB 1 (.slice at_ nt ct) (bys tx) * (B * (Sl.block N TFi [.slice aO nO cO, .slice aT nT cT] * F)))) wr)
 case atStart => exact ⟨0, 0, 0, none, none, 0, 0, [], [], rfl, rfl, rfl, by omega, by omega, by omega, by omega, ⟨rfl, rfl, rfl, rfl, rfl⟩, q1⟩
 case round =>
  obtain ⟨j, nl, nt, al, at_, cl, ct, es, tx, rfl, rfl, rfl, hj, hjp, hnl, hnt, J, hsr⟩ := hrel
  clear q0 q1 this hN
  haveI := hsr.i
  by_cases hlt : j < np ∧ j < 200
  · have hlt1 : (j : Int) < np := by omega
    have hlt2 : (j : Int) < 200 := by omega
    obtain ⟨p, hp⟩ : ∃ p, ps[j]? = some p := ⟨_, List.getElem?_eq_getElem (by have := HP.out.2; omega)⟩
    have hP0 := HP.out.1
    obtain ⟨b, o, rfl, r1, r2, r3, r4⟩ := readsP_at hP0 hp
    have HS : Aside ((ps.take (j + 1)).flatMap (entOf O T) = es ++ entOf O T p) := (by rw [listP_snoc hp, ← J.out.2.1] : _ = _)
    have HE : Aside (entOf O T p = if (fromP O T p).length = 0 then [] else [entP O T p]) := (rfl : _ = _)
    have HQ : Aside (fromP O T p = srcF O T (p.src % 2) ∧ atP O T p = p.pos % (fromP O T p).length ∧ lenP O T p = 1 + p.len % (min 500 ((fromP O T p).length - atP O T p)) ∧ entP O T p = ⟨p.src % 2, atP O T p, lenP O T p, if p.cnt = true ∧ p.src % 2 = 1 then endsC (((fromP O T p).drop (atP O T p).toNat).take (lenP O T p).toNat) else -1⟩) := ⟨rfl, rfl, rfl, rfl⟩
    have HT5 : Aside ((textE O T (es ++ entOf O T p)).length ≤ 500 * (j + 1)) := by
     have h9 := text500 (O := O) (T := T) (by rw [← HB.out.2.2.1]; exact hO) (by rw [← HB.out.2.2.2]; exact hT) (ps.take (j + 1))
     rw [HS.out, List.length_take] at h9
     have := HP.out.2
     show _ ≤ _
     omega
    clear hp hP0
    obtain ⟨psrc, ppos, plen, pcnt⟩ := p
    simp only at r1 r2 r3 r4
    have pk1 := fun w => pick_any psrc 2 w (by omega) (by omega)
    have h01 : psrc % 2 = 0 ∨ psrc % 2 = 1 := by omega
    rcases h01 with h01 | h01
    · rw [h01] at pk1
      have HF : Aside (fromP O T ⟨psrc, ppos, plen, pcnt⟩ = O ∧ psrc % 2 = 0 ∧ O.length = nO ∧ Reads B (.slice aO nO cO) O) := by
       refine ⟨?_, h01, HB.out.2.2.1.symm, HB.out.1⟩
       have := HQ.out.1
       simp only at this
       rw [h01] at this
       exact this
      clear h01
      go_wp2_with fail
      with_reducible refine Calls.mono (pk1 _) ?_
      rintro e w1 ⟨rfl, rfl⟩
      by_cases hz : nO = 0
      · have HEE : Aside (entOf O T ⟨psrc, ppos, plen, pcnt⟩ = []) := (by rw [HE.out, if_pos (by rw [HF.out.1, HF.out.2.2.1]; exact hz)] : _ = _)
        clear pk1
        subst hz
        go_wp2
        go_roundg (200 - (j + 1))
        case measure => have := J.out.1; omega
        case rel => exact ⟨j + 1, nl, nt, al, at_, cl, ct, es, tx, by go_num, rfl, rfl, by omega, by omega, by omega, by omega, ⟨rfl, by rw [HS.out, HEE.out, List.append_nil], J.out.2.2⟩, keep5 _ _ _ _ _⟩
      · have hz' : ((nO : Int) == 0) = false := by simp; omega
        have pk2 := fun w => pick_any ppos (nO : Int) w (by omega) (by omega)
        have ha0 : 0 ≤ ppos % (nO : Int) := Int.emod_nonneg _ (by omega)
        have ha1 : ppos % (nO : Int) < (nO : Int) := Int.emod_lt_of_pos _ (by omega)
        obtain ⟨ka, hka⟩ : ∃ ka : Nat, ppos % (nO : Int) = ka := ⟨(ppos % (nO : Int)).toNat, by omega⟩
        rw [hka] at pk2 ha0 ha1
        obtain ⟨q, hq⟩ : ∃ q : Nat, min (500 : Int) ((nO : Int) - ka) = q := ⟨(min (500 : Int) ((nO : Int) - ka)).toNat, by omega⟩
        have hq1 : 1 ≤ q ∧ q ≤ 500 ∧ q + ka ≤ nO := by omega
        have pk3 := fun w => pick_any plen (q : Int) w (by omega) (by omega)
        have hm0 : 0 ≤ plen % (q : Int) := Int.emod_nonneg _ (by omega)
        have hm1 : plen % (q : Int) < (q : Int) := Int.emod_lt_of_pos _ (by omega)
        obtain ⟨km, hkm⟩ : ∃ km : Nat, plen % (q : Int) = km := ⟨(plen % (q : Int)).toNat, by omega⟩
        rw [hkm] at pk3 hm0 hm1
        have HEP : Aside (atP O T ⟨psrc, ppos, plen, pcnt⟩ = ka ∧ lenP O T ⟨psrc, ppos, plen, pcnt⟩ = 1 + (km : Int)) := by
         have e1 : atP O T ⟨psrc, ppos, plen, pcnt⟩ = (ka : Int) := by rw [HQ.out.2.1, HF.out.1, HF.out.2.2.1]; exact hka
         refine ⟨e1, ?_⟩
         rw [HQ.out.2.2.1, e1, HF.out.1, HF.out.2.2.1, hq, hkm]
        have HEE : Aside (entOf O T ⟨psrc, ppos, plen, pcnt⟩ = [⟨0, ka, 1 + (km : Int), if pcnt = true ∧ (0 : Int) = 1 then endsC ((O.drop ka).take (1 + km)) else -1⟩]) := (by
         rw [HE.out, if_neg (by rw [HF.out.1, HF.out.2.2.1]; exact hz), HQ.out.2.2.2, HEP.out.1, HEP.out.2, HF.out.1]
         simp only [HF.out.2.1]
         rw [Int.toNat_natCast, show (1 + (km : Int)).toNat = 1 + km by omega] : _ = _)
        have HPC : Aside (pieceE O T ⟨0, ka, 1 + (km : Int), if pcnt = true ∧ (0 : Int) = 1 then endsC ((O.drop ka).take (1 + km)) else -1⟩ = (O.drop ka).take (1 + km)) := (by
         unfold pieceE
         rw [srcF0]
         simp only
         rw [Int.toNat_natCast, show (1 + (km : Int)).toNat = 1 + km by omega] : _ = _)
        have hw1 : IntKind.i64.wrap ((nO : Int) - ka) = (nO : Int) - ka := IntWalk.i64_in _ (by omega)
        have hw2 : IntKind.i64.wrap (1 + (km : Int)) = 1 + (km : Int) := IntWalk.i64_in _ (by omega)
        have hw3 : IntKind.i64.wrap ((ka : Int) + (1 + (km : Int))) = (ka : Int) + (1 + (km : Int)) := IntWalk.i64_in _ (by omega)
        have hct := at_cut (P := Tryz.prog) EB (a := aO) (n := nO) (c := cO) ka (ka + (1 + km)) (by omega) (by omega)
        rw [show ka + (1 + km) - ka = 1 + km by omega, Int.natCast_add, Int.natCast_add, Int.natCast_one] at hct
        have hcr := Reads.cut HF.out.2.2.2 ka (ka + (1 + km)) (by omega) (by omega)
        rw [show ka + (1 + km) - ka = 1 + km by omega] at hcr
        have HCR : Aside (Reads B (.slice (cutA aO cO ka 1) (1 + km) (cO - ka)) ((O.drop ka).take (1 + km)) ∧ ((O.drop ka).take (1 + km)).length = 1 + km) := ⟨hcr, by rw [List.length_take, List.length_drop, HF.out.2.2.1]; omega⟩
        have hnt2 : nt + (1 + km) ≤ 500 * (j + 1) := by
         have h9 := HT5.out
         rw [HEE.out, textE_app, List.length_append, ← J.out.2.2.2.1, J.out.2.2.2.2] at h9
         have e : ∀ x, textE O T [x] = pieceE O T x := fun x => by simp [textE]
         rw [e, HPC.out, HCR.out.2] at h9
         exact h9
        obtain ⟨pc, hpc⟩ : ∃ pc, (O.drop ka).take (1 + km) = pc := ⟨_, rfl⟩
        rw [hpc] at HPC HCR HEE
        obtain ⟨ca, hca⟩ : ∃ ca, cutA aO cO ka 1 = ca := ⟨_, rfl⟩
        rw [hca] at hct HCR
        clear hka hkm hcr hpc hca HE HQ HF HEP HT5
        go_wp2_with fail
        with_reducible refine Calls.mono (pk2 _) ?_
        rintro e w1 ⟨rfl, rfl⟩
        go_wp2_with fail
        with_reducible refine Calls.mono (pk3 _) ?_
        rintro e w1 ⟨rfl, rfl⟩
        have HEE2 : Aside (entOf O T ⟨psrc, ppos, plen, pcnt⟩ = [⟨0, ka, 1 + (km : Int), -1⟩] ∧ pieceE O T ⟨0, ka, 1 + (km : Int), -1⟩ = pc) := by
         have h8 := HEE.out
         have h9 := HPC.out
         rw [if_neg (by omega)] at h8 h9
         exact ⟨h8, h9⟩
        clear HEE HPC
        cases pcnt
        all_goals
         go_wp2_with (first
          | (at_builtin; refine wpl_append_same E rfl (.tmp 84) (.tmp 86) rfl rfl rfl (takeI (rw TEn 4 (.slice al nl cl) (ecs es))) (Src.new (b := _) (e := TEn) (s := 4) (vs := [.int .i64 0, .int .i64 ka, .int .i64 (1 + (km : Int)), Value.int .i64 (-1)]) (takeI _) rfl (by intro u hu; simp at hu; rcases hu with rfl | rfl | rfl | rfl <;> rfl)) (by unfold maxLen; omega) (by omega) ?_; intro a8 c8 w8 q8 z8; clear z8; haveI := q8.i)
          | (at_builtin; refine wpl_append_same EB rfl (.tmp 88) (.tmp 89) rfl rfl rfl (takeI (rw TB 1 (.slice at_ nt ct) (bys tx))) (Reads.srcI HCR.out.1 HCR.out.2) (by unfold maxLen; omega) (by omega) ?_; intro a9 c9 w9 q9 z9; clear z9; haveI := q9.i))
         go_roundg (200 - (j + 1))
         case measure => have := J.out.1; omega
         case rel =>
          refine ⟨j + 1, nl + 1, nt + (1 + km), a8, a9, c8, c9, es ++ [⟨0, ka, 1 + (km : Int), (-1)⟩], tx ++ pc, by go_num, rfl, rfl, by omega, by omega, by omega, by omega, ⟨rfl, by rw [HS.out, HEE2.out.1], by rw [List.length_append, J.out.2.2.1]; rfl, ?_, by rw [List.length_append, J.out.2.2.2.2, HCR.out.2]⟩, ?_⟩
          · rw [textE_app, ← J.out.2.2.2.1]
            have e : ∀ x, textE O T [x] = pieceE O T x := fun x => by simp [textE]
            rw [e]
            have h9 := HEE2.out.2
            rw [h9]
          · rw [ecs_last, bys_append]
            exact keep5 (rw TEn 4 (.slice a8 (nl + 1) c8) (ecs es ++ [.int .i64 0, .int .i64 ka, .int .i64 (1 + (km : Int)), Value.int .i64 (-1)])) (rw TB 1 (.slice a9 (nt + (1 + km)) c9) (bys tx ++ bys pc)) B (Sl.block N TFi [.slice aO nO cO, .slice aT nT cT]) F
    · rw [h01] at pk1
      have HF : Aside (fromP O T ⟨psrc, ppos, plen, pcnt⟩ = T ∧ psrc % 2 = 1 ∧ T.length = nT ∧ Reads B (.slice aT nT cT) T) := by
       refine ⟨?_, h01, HB.out.2.2.2.symm, HB.out.2.1⟩
       have := HQ.out.1
       simp only at this
       rw [h01] at this
       exact this
      clear h01
      go_wp2_with fail
      with_reducible refine Calls.mono (pk1 _) ?_
      rintro e w1 ⟨rfl, rfl⟩
      by_cases hz : nT = 0
      · have HEE : Aside (entOf O T ⟨psrc, ppos, plen, pcnt⟩ = []) := (by rw [HE.out, if_pos (by rw [HF.out.1, HF.out.2.2.1]; exact hz)] : _ = _)
        clear pk1
        subst hz
        go_wp2
        go_roundg (200 - (j + 1))
        case measure => have := J.out.1; omega
        case rel => exact ⟨j + 1, nl, nt, al, at_, cl, ct, es, tx, by go_num, rfl, rfl, by omega, by omega, by omega, by omega, ⟨rfl, by rw [HS.out, HEE.out, List.append_nil], J.out.2.2⟩, keep5 _ _ _ _ _⟩
      · have hz' : ((nT : Int) == 0) = false := by simp; omega
        have pk2 := fun w => pick_any ppos (nT : Int) w (by omega) (by omega)
        have ha0 : 0 ≤ ppos % (nT : Int) := Int.emod_nonneg _ (by omega)
        have ha1 : ppos % (nT : Int) < (nT : Int) := Int.emod_lt_of_pos _ (by omega)
        obtain ⟨ka, hka⟩ : ∃ ka : Nat, ppos % (nT : Int) = ka := ⟨(ppos % (nT : Int)).toNat, by omega⟩
        rw [hka] at pk2 ha0 ha1
        obtain ⟨q, hq⟩ : ∃ q : Nat, min (500 : Int) ((nT : Int) - ka) = q := ⟨(min (500 : Int) ((nT : Int) - ka)).toNat, by omega⟩
        have hq1 : 1 ≤ q ∧ q ≤ 500 ∧ q + ka ≤ nT := by omega
        have pk3 := fun w => pick_any plen (q : Int) w (by omega) (by omega)
        have hm0 : 0 ≤ plen % (q : Int) := Int.emod_nonneg _ (by omega)
        have hm1 : plen % (q : Int) < (q : Int) := Int.emod_lt_of_pos _ (by omega)
        obtain ⟨km, hkm⟩ : ∃ km : Nat, plen % (q : Int) = km := ⟨(plen % (q : Int)).toNat, by omega⟩
        rw [hkm] at pk3 hm0 hm1
        have HEP : Aside (atP O T ⟨psrc, ppos, plen, pcnt⟩ = ka ∧ lenP O T ⟨psrc, ppos, plen, pcnt⟩ = 1 + (km : Int)) := by
         have e1 : atP O T ⟨psrc, ppos, plen, pcnt⟩ = (ka : Int) := by rw [HQ.out.2.1, HF.out.1, HF.out.2.2.1]; exact hka
         refine ⟨e1, ?_⟩
         rw [HQ.out.2.2.1, e1, HF.out.1, HF.out.2.2.1, hq, hkm]
        have HEE : Aside (entOf O T ⟨psrc, ppos, plen, pcnt⟩ = [⟨1, ka, 1 + (km : Int), if pcnt = true ∧ (1 : Int) = 1 then endsC ((T.drop ka).take (1 + km)) else -1⟩]) := (by
         rw [HE.out, if_neg (by rw [HF.out.1, HF.out.2.2.1]; exact hz), HQ.out.2.2.2, HEP.out.1, HEP.out.2, HF.out.1]
         simp only [HF.out.2.1]
         rw [Int.toNat_natCast, show (1 + (km : Int)).toNat = 1 + km by omega] : _ = _)
        have HPC : Aside (pieceE O T ⟨1, ka, 1 + (km : Int), if pcnt = true ∧ (1 : Int) = 1 then endsC ((T.drop ka).take (1 + km)) else -1⟩ = (T.drop ka).take (1 + km)) := (by
         unfold pieceE
         rw [srcF1]
         simp only
         rw [Int.toNat_natCast, show (1 + (km : Int)).toNat = 1 + km by omega] : _ = _)
        have hw1 : IntKind.i64.wrap ((nT : Int) - ka) = (nT : Int) - ka := IntWalk.i64_in _ (by omega)
        have hw2 : IntKind.i64.wrap (1 + (km : Int)) = 1 + (km : Int) := IntWalk.i64_in _ (by omega)
        have hw3 : IntKind.i64.wrap ((ka : Int) + (1 + (km : Int))) = (ka : Int) + (1 + (km : Int)) := IntWalk.i64_in _ (by omega)
        have hct := at_cut (P := Tryz.prog) EB (a := aT) (n := nT) (c := cT) ka (ka + (1 + km)) (by omega) (by omega)
        rw [show ka + (1 + km) - ka = 1 + km by omega, Int.natCast_add, Int.natCast_add, Int.natCast_one] at hct
        have hcr := Reads.cut HF.out.2.2.2 ka (ka + (1 + km)) (by omega) (by omega)
        rw [show ka + (1 + km) - ka = 1 + km by omega] at hcr
        have HCR : Aside (Reads B (.slice (cutA aT cT ka 1) (1 + km) (cT - ka)) ((T.drop ka).take (1 + km)) ∧ ((T.drop ka).take (1 + km)).length = 1 + km) := ⟨hcr, by rw [List.length_take, List.length_drop, HF.out.2.2.1]; omega⟩
        have hnt2 : nt + (1 + km) ≤ 500 * (j + 1) := by
         have h9 := HT5.out
         rw [HEE.out, textE_app, List.length_append, ← J.out.2.2.2.1, J.out.2.2.2.2] at h9
         have e : ∀ x, textE O T [x] = pieceE O T x := fun x => by simp [textE]
         rw [e, HPC.out, HCR.out.2] at h9
         exact h9
        obtain ⟨pc, hpc⟩ : ∃ pc, (T.drop ka).take (1 + km) = pc := ⟨_, rfl⟩
        rw [hpc] at HPC HCR HEE
        obtain ⟨ca, hca⟩ : ∃ ca, cutA aT cT ka 1 = ca := ⟨_, rfl⟩
        rw [hca] at hct HCR
        clear hka hkm hcr hpc hca HE HQ HF HEP HT5
        go_wp2_with fail
        with_reducible refine Calls.mono (pk2 _) ?_
        rintro e w1 ⟨rfl, rfl⟩
        go_wp2_with fail
        with_reducible refine Calls.mono (pk3 _) ?_
        rintro e w1 ⟨rfl, rfl⟩
        cases pcnt with
        | false =>
          have HEE2 : Aside (entOf O T ⟨psrc, ppos, plen, false⟩ = [⟨1, ka, 1 + (km : Int), -1⟩] ∧ pieceE O T ⟨1, ka, 1 + (km : Int), -1⟩ = pc) := by
           have h8 := HEE.out
           have h9 := HPC.out
           rw [if_neg (by simp)] at h8 h9
           exact ⟨h8, h9⟩
          clear HEE HPC
          go_wp2_with (first
           | (at_builtin; refine wpl_append_same E rfl (.tmp 84) (.tmp 86) rfl rfl rfl (takeI (rw TEn 4 (.slice al nl cl) (ecs es))) (Src.new (b := _) (e := TEn) (s := 4) (vs := [.int .i64 1, .int .i64 ka, .int .i64 (1 + (km : Int)), Value.int .i64 (-1)]) (takeI _) rfl (by intro u hu; simp at hu; rcases hu with rfl | rfl | rfl | rfl <;> rfl)) (by unfold maxLen; omega) (by omega) ?_; intro a8 c8 w8 q8 z8; clear z8; haveI := q8.i)
           | (at_builtin; refine wpl_append_same EB rfl (.tmp 88) (.tmp 89) rfl rfl rfl (takeI (rw TB 1 (.slice at_ nt ct) (bys tx))) (Reads.srcI HCR.out.1 HCR.out.2) (by unfold maxLen; omega) (by omega) ?_; intro a9 c9 w9 q9 z9; clear z9; haveI := q9.i))
          go_roundg (200 - (j + 1))
          case measure => have := J.out.1; omega
          case rel =>
           refine ⟨j + 1, nl + 1, nt + (1 + km), a8, a9, c8, c9, es ++ [⟨1, ka, 1 + (km : Int), (-1)⟩], tx ++ pc, by go_num, rfl, rfl, by omega, by omega, by omega, by omega, ⟨rfl, by rw [HS.out, HEE2.out.1], by rw [List.length_append, J.out.2.2.1]; rfl, ?_, by rw [List.length_append, J.out.2.2.2.2, HCR.out.2]⟩, ?_⟩
           · rw [textE_app, ← J.out.2.2.2.1]
             have e : ∀ x, textE O T [x] = pieceE O T x := fun x => by simp [textE]
             rw [e]
             have h9 := HEE2.out.2
             rw [h9]
           · rw [ecs_last, bys_append]
             exact keep5 (rw TEn 4 (.slice a8 (nl + 1) c8) (ecs es ++ [.int .i64 1, .int .i64 ka, .int .i64 (1 + (km : Int)), Value.int .i64 (-1)])) (rw TB 1 (.slice a9 (nt + (1 + km)) c9) (bys tx ++ bys pc)) B (Sl.block N TFi [.slice aO nO cO, .slice aT nT cT]) F
        | true =>
          have HEE2 : Aside (entOf O T ⟨psrc, ppos, plen, true⟩ = [⟨1, ka, 1 + (km : Int), endsC pc⟩] ∧ pieceE O T ⟨1, ka, 1 + (km : Int), endsC pc⟩ = pc) := by
           have h8 := HEE.out
           have h9 := HPC.out
           rw [if_pos (by simp)] at h8 h9
           exact ⟨h8, h9⟩
          have hen := fun F w q => ends_any _ pc B F w HCR.out.1 q (by rw [HCR.out.2]; omega)
          obtain ⟨ec, hec⟩ : ∃ ec, endsC pc = ec := ⟨_, rfl⟩
          rw [hec] at hen HEE2
          clear HEE HPC hec
          go_wp2_with fail
          refine (hen _ _ (takeI B)).mono ?_
          rintro e w5 ⟨ae, ce, rfl, q5⟩
          haveI := q5.i
          clear hen
          go_upto_region 17 with (fail)
          have q6 : Sat (rw TEn 4 (.slice al nl cl) (ecs es) * (rw TB 1 (.slice at_ nt ct) (bys tx) * (B * (Sl.block N TFi [.slice aO nO cO, .slice aT nT cT] * (F * Sl.block wr.heap.size TEn [.int .i64 1, .int .i64 ka, .int .i64 (1 + (km : Int)), .int .i64 (ec : Int)]))))) (w5.setCell ⟨wr.heap.size, 3, none⟩ (.int .i64 (ec : Int))) := satI_eq (by first | (simp only [List.set]; ac_rfl) | ac_rfl)
          obtain ⟨w6, hw6⟩ : ∃ w6, w5.setCell ⟨wr.heap.size, 3, none⟩ (.int .i64 (ec : Int)) = w6 := ⟨_, rfl⟩
          rw [hw6] at q6 ⊢
          haveI := q6.i
          clear hw6 q5
          go_wp2_with (first
           | (at_builtin; refine wpl_append_same E rfl (.tmp 84) (.tmp 86) rfl rfl rfl (takeI (rw TEn 4 (.slice al nl cl) (ecs es))) (Src.new (b := _) (e := TEn) (s := 4) (vs := [.int .i64 1, .int .i64 ka, .int .i64 (1 + (km : Int)), Value.int .i64 (ec : Int)]) (takeI _) rfl (by intro u hu; simp at hu; rcases hu with rfl | rfl | rfl | rfl <;> rfl)) (by unfold maxLen; omega) (by omega) ?_; intro a8 c8 w8 q8 z8; clear z8; haveI := q8.i)
           | (at_builtin; refine wpl_append_same EB rfl (.tmp 88) (.tmp 89) rfl rfl rfl (takeI (rw TB 1 (.slice at_ nt ct) (bys tx))) (Reads.srcI HCR.out.1 HCR.out.2) (by unfold maxLen; omega) (by omega) ?_; intro a9 c9 w9 q9 z9; clear z9; haveI := q9.i))
          go_roundg (200 - (j + 1))
          case measure => have := J.out.1; omega
          case rel =>
           refine ⟨j + 1, nl + 1, nt + (1 + km), a8, a9, c8, c9, es ++ [⟨1, ka, 1 + (km : Int), (ec : Int)⟩], tx ++ pc, by go_num, rfl, rfl, by omega, by omega, by omega, by omega, ⟨rfl, by rw [HS.out, HEE2.out.1], by rw [List.length_append, J.out.2.2.1]; rfl, ?_, by rw [List.length_append, J.out.2.2.2.2, HCR.out.2]⟩, ?_⟩
           · rw [textE_app, ← J.out.2.2.2.1]
             have e : ∀ x, textE O T [x] = pieceE O T x := fun x => by simp [textE]
             rw [e]
             have h9 := HEE2.out.2
             rw [h9]
           · rw [ecs_last, bys_append]
             exact keep5 (rw TEn 4 (.slice a8 (nl + 1) c8) (ecs es ++ [.int .i64 1, .int .i64 ka, .int .i64 (1 + (km : Int)), Value.int .i64 (ec : Int)])) (rw TB 1 (.slice a9 (nt + (1 + km)) c9) (bys tx ++ bys pc)) B (Sl.block N TFi [.slice aO nO cO, .slice aT nT cT]) F
  · have HEND : Aside (es = RL ∧ tx = RT) := by
     have e1 : ps.take j = ps.take 200 := by
      have := HP.out.2
      rcases Nat.lt_or_ge j 200 with h9 | h9
      · rw [List.take_of_length_le (by omega), List.take_of_length_le (by omega)]
      · rw [show j = 200 by omega]
     have e2 := J.out.2.1
     rw [e1] at e2
     have e3 : es = RL := by rw [HL.out.1]; exact e2
     exact ⟨e3, by rw [← HL.out.2, ← e3]; exact J.out.2.2.2.1⟩
    obtain ⟨rfl, rfl⟩ := HEND.out
    obtain rfl := J.out.2.2.1
    obtain rfl := J.out.2.2.2.2
    have h3 : ¬ ((j : Int) < np ∧ (j : Int) < 200) := by omega
    clear HL HEND J
    by_cases h4 : (j : Int) < np
    · have h5 : ¬ (j : Int) < 200 := by omega
      go_wp2
      go_ret2
      exact ⟨al, cl, at_, ct, rfl, keep4 _ _ _ _⟩
    · go_wp2
      go_ret2
      exact ⟨al, cl, at_, ct, rfl, keep4 _ _ _ _⟩
end Go.Proofs.YtfhbmblbidcmmaaGreat
