/-
  Walks and plain laws that the lines of texts lean on. No condition (part 53)
-/
import Derived.Test.YtfhbmblbidcmmaaGreatRl49
import Derived.WideShapes
import Derived.Test.YtfhbmblbidcmmaaGreatRl52
set_option linter.unusedSimpArgs false
set_option linter.unusedVariables false
namespace Go.Proofs.YtfhbmblbidcmmaaGreat
set_option linter.unusedSimpArgs false
set_option linter.unusedVariables false
open Go.RowKit Go.Sl Go.Dk Go.Tr Go.ChangeShapes Go.WideShapes
theorem rowsL_map {α : Type} {f : α → List Value} {p : α → Prop} : ∀ l : List (List Value), (∀ r ∈ l, ∃ c, r = f c ∧ p c) → ∃ cs : List α, l = cs.map f ∧ ∀ c ∈ cs, p c
 | [], _ => ⟨[], rfl, by simp⟩
 | r :: l, hl => by
   obtain ⟨c, rfl, hc⟩ := hl r (by simp)
   obtain ⟨cs, rfl, hcs⟩ := rowsL_map l fun r' hr' => hl r' (by simp [hr'])
   exact ⟨c :: cs, rfl, fun c' hc' => by rcases List.mem_cons.1 hc' with rfl | h; exact hc; exact hcs _ h⟩
theorem u8L_wf {n : Int} (h : (Lit.int .u8 n).wf = true) : ∃ x : UInt8, n = (x.toNat : Int) := by
 have h1 : 0 ≤ n ∧ n ≤ 255 := by simpa [Lit.wf, IntKind.min, IntKind.max, IntKind.signed, IntKind.bits] using h
 refine ⟨UInt8.ofNat n.toNat, ?_⟩
 simp [UInt8.toNat_ofNat']
 omega
theorem i64L_wf {n : Int} (h : (Lit.int .i64 n).wf = true) : -9223372036854775808 ≤ n ∧ n ≤ 9223372036854775807 := by
 simpa [Lit.wf, IntKind.min, IntKind.max, IntKind.signed, IntKind.bits] using h
theorem sliceL_of {H : Type} {enc : TypeId × Value → H} {w : World} {base : Nat} {spare : Nat → Bool} {held : Bool} {t e fuel : Nat} {v : Value} {x : DataW H × List MemPlace}
 (ht : Tryz.prog.underlying t = some (.slice e)) (h : DataW.trod enc Tryz.prog w base spare held fuel t [v] = some x) : ∃ a n c, v = .slice a n c ∧ n ≤ c ∧ c ≤ maxLen := by
 rcases DataW.trod_slice ht h with ⟨h0, _⟩ | ⟨a, len, cap, elems, rest, n, _, h1, _, _, h2, h3, _⟩
 · exact ⟨none, 0, 0, by simpa using h0, Nat.le_refl _, by unfold maxLen; decide⟩
 · exact ⟨some a, len, cap, by simpa using h1, h2, h3⟩
theorem bytesL_in {H : Type} {enc : TypeId × Value → H} {w : World} {base : Nat} {spare : Nat → Bool} {held : Bool} {v : Value}
 (h : ∃ fuel x, DataW.trod enc Tryz.prog w base spare held fuel 26 [v] = some x) :
 ∃ (a : Option Addr) (n c : Nat) (l : List UInt8), v = .slice a n c ∧ Byt w (.slice a n c) l := by
 obtain ⟨fuel, x, hx⟩ := h
 obtain ⟨a, len, cap, rfl, hcap⟩ := sliceL_of Tryz.underlying26 hx
 obtain ⟨rs, h1, h2, h3, h4⟩ := rows_of_trod (s := 1) Tryz.underlying26 (by kernel_rfl) (by omega) hx
 obtain ⟨zs, rfl, hz⟩ := rowsL_map (f := fun z : UInt8 => [Value.int .u8 z.toNat]) (p := fun z => True) rs (by
  intro r hr
  obtain ⟨n, y, hy⟩ := h4 r hr
  obtain ⟨z, hz, _, hw⟩ := DataW.trod_int Tryz.underlying5 hy
  obtain ⟨x2, rfl⟩ := u8L_wf hw
  exact ⟨x2, hz, trivial⟩)
 obtain ⟨a', c', e1, h5⟩ := h1
 have e2 := e1
 simp only [List.length_map, Value.slice.injEq] at e2
 obtain ⟨rfl, rfl, rfl⟩ := e2
 refine ⟨a, _, cap, zs, rfl, a, cap, rfl, hcap.1, hcap.2, fun i z hi => ?_⟩
 obtain ⟨_, b, o, rfl, h6⟩ := h5 i [.int .u8 z.toNat] (by simp [hi])
 exact ⟨b, o, rfl, by have := h6 0 _ rfl; simpa [bv] using this⟩
theorem readsL_old {α : Type} {f : α → List Value} {s : Nat} (hf : ∀ x, (f x).length = s) (hp : 0 < s) {w : World} {a : Option Addr} {cap : Nat} {l : List α} (h : Rws w (.slice a l.length cap) s (l.map f)) (h1 : l.length ≤ cap) (h2 : cap ≤ 9223372036854775807) : ReadsR s (old w) (.slice a l.length cap) l.length (l.flatMap f) := by
 have hl4 : (l.flatMap f).length = l.length * s := flatV_len hf l
 refine ⟨hl4, a, cap, rfl, h1, h2, fun j u hj => ?_⟩
 have hjl : j < l.length * s := by
  rw [← hl4]
  exact (List.getElem?_eq_some_iff.1 hj).1
 have hjd : j / s < l.length := Nat.div_lt_of_lt_mul (by rw [Nat.mul_comm]; exact hjl)
 have hjm : j % s < s := Nat.mod_lt _ hp
 have ej : j / s * s + j % s = j := by rw [Nat.mul_comm]; exact Nat.div_add_mod j s
 obtain ⟨x, hx⟩ : ∃ x, l[j / s]? = some x := ⟨_, List.getElem?_eq_getElem hjd⟩
 have hfl := flat_at (f := f) (s := s) hf l (j / s) (j % s) x hx hjm
 rw [ej] at hfl
 obtain ⟨b, o, rfl, h6⟩ := h.at (i := j / s) (r := f x) (by simp [hx])
 refine ⟨b, o, rfl, ?_⟩
 have h7 := h6 (j % s) u (hfl.symm.trans hj)
 rw [Nat.add_assoc, ej] at h7
 haveI : OldAt w b (o + j) u := ⟨h7⟩
 exact inferInstance
theorem intsL_in {H : Type} {enc : TypeId × Value → H} {w : World} {base : Nat} {spare : Nat → Bool} {held : Bool} {a : Option Addr} {len cap : Nat}
 (h : ∃ fuel x, DataW.trod enc Tryz.prog w base spare held fuel 45 [.slice a len cap] = some x) :
 ∃ zs : List Int, zs.length = len ∧ ReadsR 1 (old w) (.slice a zs.length cap) zs.length (zs.map (Value.int .i64)) ∧ ∀ z ∈ zs, z ≤ 9223372036854775807 := by
 obtain ⟨fuel, x, hx⟩ := h
 obtain ⟨a', len', cap', he, hcap⟩ := sliceL_of Tryz.underlying45 hx
 cases he
 obtain ⟨rs, h1, h2, h3, h4⟩ := rows_of_trod (s := 1) Tryz.underlying45 (by kernel_rfl) (by omega) hx
 obtain ⟨zs, rfl, hz⟩ := rowsL_map (f := fun z : Int => [Value.int .i64 z]) (p := fun z => z ≤ 9223372036854775807) rs (by
  intro r hr
  obtain ⟨n, y, hy⟩ := h4 r hr
  obtain ⟨z, hz, _, hw⟩ := DataW.trod_int Tryz.underlying3 hy
  exact ⟨z, hz, (i64L_wf hw).2⟩)
 have hlen : zs.length = len := by simpa using h2
 subst hlen
 have hR := readsL_old (f := fun z : Int => [Value.int .i64 z]) (s := 1) (fun _ => rfl) (by omega) h1 hcap.1 (by simpa [maxLen] using hcap.2)
 have e : ∀ l : List Int, l.flatMap (fun z : Int => [Value.int .i64 z]) = l.map (Value.int .i64) := by
  intro l
  induction l with
  | nil => rfl
  | cons a l ih => rw [List.flatMap_cons, ih]; rfl
 rw [e] at hR
 exact ⟨zs, rfl, hR, hz⟩
theorem fieldL_at {H : Type} {enc : TypeId × Value → H} {w : World} {base : Nat} {spare : Nat → Bool} {held : Bool} {t fuel : Nat} {r : List Value} {x : DataW H × List MemPlace} {fs : Array Field}
 (ht : Tryz.prog.underlying t = some (.struct fs)) (h : DataW.trod enc Tryz.prog w base spare held fuel t r = some x) (i ty off c : Nat) (hf : (fs[i]?).map (fun f => (f.type, f.offset)) = some (ty, off)) (hc : Tryz.prog.cellsOf ty = c) :
 ∃ n y, DataW.trod enc Tryz.prog w base spare held n ty ((r.drop off).take c) = some y := by
 obtain ⟨_, n, h2⟩ := field_of_trod ht h
 obtain ⟨f, h3, h4⟩ := Option.map_eq_some_iff.1 hf
 obtain ⟨y, h5⟩ := h2 i f h3
 cases h4
 rw [hc] at h5
 exact ⟨n, y, h5⟩
theorem fourL_of {r : List Value} (h : r.length = 4) : ∃ a b c d, r = [a, b, c, d] := by
 match r, h with
 | [a, b, c, d], _ => exact ⟨a, b, c, d, rfl⟩
theorem partsL_in {H : Type} {enc : TypeId × Value → H} {w : World} {base : Nat} {spare : Nat → Bool} {held : Bool} {a : Option Addr} {len cap : Nat}
 (h : ∃ fuel x, DataW.trod enc Tryz.prog w base spare held fuel 53 [.slice a len cap] = some x) :
 ∃ ps : List PartT, ps.length = len ∧ ReadsP (old w) (.slice a ps.length cap) ps := by
 obtain ⟨fuel, x, hx⟩ := h
 obtain ⟨a', len', cap', he, hcap⟩ := sliceL_of Tryz.underlying53 hx
 cases he
 obtain ⟨rs, h1, h2, h3, h4⟩ := rows_of_trod (s := 4) Tryz.underlying53 (by kernel_rfl) (by omega) hx
 obtain ⟨ps, rfl, hz⟩ := rowsL_map (f := ptrow) (p := fun _ => True) rs (by
  intro r hr
  obtain ⟨n, y, hy⟩ := h4 r hr
  obtain ⟨hl, n', hf⟩ := field_of_trod Tryz.underlying72 hy
  obtain ⟨v0, v1, v2, v3, rfl⟩ := fourL_of (hl.trans (by kernel_rfl))
  have c0 : Tryz.prog.cellsOf 3 = 1 := by kernel_rfl
  have c1 : Tryz.prog.cellsOf 4 = 1 := by kernel_rfl
  obtain ⟨_, y0, e0⟩ := fieldL_at Tryz.underlying72 hy 0 3 0 1 rfl c0
  obtain ⟨_, y1, e1⟩ := fieldL_at Tryz.underlying72 hy 1 3 1 1 rfl c0
  obtain ⟨_, y2, e2⟩ := fieldL_at Tryz.underlying72 hy 2 3 2 1 rfl c0
  obtain ⟨_, y3, e3⟩ := fieldL_at Tryz.underlying72 hy 3 4 3 1 rfl c1
  obtain ⟨z0, rfl, w0⟩ := int_of_trod Tryz.underlying3 e0
  obtain ⟨z1, rfl, w1⟩ := int_of_trod Tryz.underlying3 e1
  obtain ⟨z2, rfl, w2⟩ := int_of_trod Tryz.underlying3 e2
  obtain ⟨b3, hb3, _⟩ := DataW.trod_bool Tryz.underlying4 e3
  cases hb3
  exact ⟨⟨z0, z1, z2, b3⟩, rfl, trivial⟩)
 have hlen : ps.length = len := by simpa using h2
 subst hlen
 exact ⟨ps, rfl, readsL_old (f := ptrow) (s := 4) (fun _ => rfl) (by omega) h1 hcap.1 (by simpa [maxLen] using hcap.2)⟩
theorem open_twoL {H : Type} {enc : TypeId × Value → H} {P : Program} {t : TypeId} {W : World} {base : Nat} {sp : Nat → Bool} {held : Bool} {f0 f1 : Field} {r : Reach} {b0 : Nat} {v : Value} {d : DataW H} {ps : List MemPlace} (ht : P.underlying t = some (.struct #[f0, f1]))
 (o0 : f0.offset = 0) (o1 : f1.offset = 1) (c0 : P.cellsOf f0.type = 1) (c1 : P.cellsOf f1.type = 1) (ct : P.cellsOf t = 2)
 (hval : Value.okWide P W r b0 t v) (hd : DataW.Trod enc P W base sp held t v d ps) : ∃ x y, v = .agg #[x, y] ∧ (∃ m q, DataW.trod enc P W base sp held m f0.type [x] = some q) ∧ (∃ m q, DataW.trod enc P W base sp held m f1.type [y] = some q) := by
 simp only [Value.okWide, ht] at hval
 obtain ⟨cs, rfl, hs, _⟩ := hval
 obtain ⟨fuel, hf⟩ := hd
 cases fuel with
 | zero => simp [DataW.trod] at hf
 | succ m =>
   rw [DataW.trod_step] at hf
   unfold DataW.trodStep at hf
   simp only [ht, Value.cells] at hf
   rw [ct] at hs
   obtain ⟨l⟩ := cs
   match l, hs with
   | [x, y], _ =>
    simp only [ct, List.length_cons, List.length_nil, if_true, List.mapM_cons, List.mapM_nil, o0, o1, c0, c1, Option.map_eq_some_iff, bind, Option.bind_eq_some_iff, pure, Option.some.injEq] at hf
    obtain ⟨xs, ⟨p0, e0, l1, ⟨p1, e1, l2, rfl, rfl⟩, rfl⟩, _⟩ := hf
    simp at e0 e1
    exact ⟨x, y, rfl, ⟨m, p0, e0⟩, ⟨m, p1, e1⟩⟩
end Go.Proofs.YtfhbmblbidcmmaaGreat
namespace Go.Sl
theorem Sat.old_self (w : World) : Sat (old w) w := by
  refine ⟨_, rfl, fun k r e => ?_⟩
  cases k with
  | raw b =>
    obtain ⟨o, ho, rfl⟩ := Option.map_eq_some_iff.1 e
    exact ho
  | env => cases e; exact ⟨rfl, rfl, rfl⟩
  | cell b i => cases e
  | hdr b => cases e

theorem Reads.old {w0 : World} {v : Value} {l : List UInt8} (h : Byt w0 v l) : Reads (old w0) v l := by
  intro F w hs
  obtain ⟨a, c, h1, h2, h3, h4⟩ := h
  refine ⟨a, c, h1, h2, h3, fun i x hx => ?_⟩
  obtain ⟨b, o, h5, h6⟩ := h4 i x hx
  exact ⟨b, o, h5, hs.old_cell h6⟩
end Go.Sl
namespace Go.Proofs.YtfhbmblbidcmmaaGreat
open Go.RowKit Go.Sl Go.Dk Go.Tr
theorem readsE_rw {a : Option Addr} {n c : Nat} {l : List Ent} {F : Assn} {w : World} (hs : Sat (rw TEn 4 (.slice a n c) (ecs l) * F) w) (hn : n = l.length) : ReadsE (rw TEn 4 (.slice a n c) (ecs l)) (.slice a n c) l := by
  subst hn
  exact ReadsR.rw hs ⟨a, c, rfl⟩
end Go.Proofs.YtfhbmblbidcmmaaGreat
