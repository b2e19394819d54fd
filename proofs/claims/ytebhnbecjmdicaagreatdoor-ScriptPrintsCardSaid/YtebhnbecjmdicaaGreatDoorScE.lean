/-
  Walk: script.quoted.
  Walks: strconv.ParseUint of two letters to the base 16; script.escaped.
-/
import Derived.Test.YtebhnbecjmdicaaGreatDoorScC
import Derived.Lib.Builder
import Derived.Lib.ConvBytes
import Derived.Laws.Closers25
import Derived.Laws.Closers25b
namespace Go.Proofs.YtebhnbecjmdicaaGreatDoor
set_option linter.unusedSimpArgs false
set_option linter.unusedVariables false
open Go.RowKit Go.Sl Go.Sc

attribute [local go_sem] Go.Sl.cell_sat Go.Sl.frozen_sat Go.Sc.str_toList Go.Sc.str_size Go.Sc.str_extract

def ren167 : Go.Shelf.Ren := ⟨fun | 167 => 32 | 240 => 41 | 276 => 56 | n => n, fun | 0 => 0 | 4 => 4 | 5 => 5 | 9 => 9 | 20 => 20 | 37 => 23 | 70 => 60 | 72 => 62 | 75 => 64 | 164 => 108 | 80 => 68 | n => n, fun | n => n⟩
set_option maxRecDepth 100000 in
theorem lays167 : Lays.n167 Tryz.prog ren167 := {
  mixed := by kernel_rfl
  f167 := Tryz.func32.trans (congrArg some (by kernel_rfl))
  f240 := Tryz.func41.trans (congrArg some (by kernel_rfl))
  f276 := Tryz.func56.trans (congrArg some (by kernel_rfl))
  t0 := Tryz.underlying0
  a0 := Tryz.isAgg0
  z0 := Tryz.sizeOf0
  v0 := Tryz.zeroValue0
  t4 := Tryz.underlying4
  a4 := Tryz.isAgg4
  z4 := Tryz.sizeOf4
  v4 := Tryz.zeroValue4
  t5 := Tryz.underlying5
  a5 := Tryz.isAgg5
  z5 := Tryz.sizeOf5
  v5 := Tryz.zeroValue5
  t9 := Tryz.underlying9
  a9 := Tryz.isAgg9
  z9 := Tryz.sizeOf9
  v9 := Tryz.zeroValue9
  t20 := Tryz.underlying20
  a20 := Tryz.isAgg20
  z20 := Tryz.sizeOf20
  v20 := Tryz.zeroValue20
  t37 := Tryz.underlying23
  a37 := Tryz.isAgg23
  z37 := Tryz.sizeOf23
  v37 := Tryz.zeroValue23
  t70 := Tryz.underlying60
  a70 := Tryz.isAgg60
  z70 := Tryz.sizeOf60
  v70 := Tryz.zeroValue60
  t72 := Tryz.underlying62
  a72 := Tryz.isAgg62
  z72 := Tryz.sizeOf62
  v72 := Tryz.zeroValue62
  t75 := Tryz.underlying64
  a75 := Tryz.isAgg64
  z75 := Tryz.sizeOf64
  v75 := Tryz.zeroValue64
  t164 := Tryz.underlying108
  a164 := Tryz.isAgg108
  z164 := Tryz.sizeOf108
  v164 := Tryz.zeroValue108 }
theorem extra167 : Builder.Extra Tryz.prog ren167 := {
  sizeBuilder := by kernel_rfl
  liesBuilder := by kernel_rfl
  t5 := Tryz.underlying5
  a5 := Tryz.isAgg5
  z5 := Tryz.sizeOf5
  v5 := Tryz.zeroValue5
  infoByte := by kernel_rfl
  cellsByte := by kernel_rfl
  sizeByte := by kernel_rfl
  neB5 := by decide }
/-- a builder that holds bytes -/
def Bld (B b : Nat) (out : Bs) (w : World) : Prop := Lib.BuilderAt 62 5 B b (.pointer (some ⟨b, 0, none⟩)) (Lib.byteCells out) w
theorem wbyte (B b : Nat) (out : Bs) (x : UInt8) (w : World) (h : Bld B b out w) (hl : out.length ≤ 100000000000) (hB : B ≤ w.heap.size) :
    Calls Tryz.prog 32 #[.pointer (some ⟨b, 0, none⟩), .int .u8 x.toNat] w fun e w' => e = .returned .nilIface ∧ Bld B b (out ++ [x]) w' ∧ Below B w w' := by
  refine (Any.Builder_WriteByte lays167 extra167 B b _ x.toNat w (.inr h) (by rw [Lib.byteCells_length]; omega) hB).mono ?_
  rintro e w' ⟨rfl, h1, h2⟩
  refine ⟨rfl, ?_, h2⟩
  unfold Bld
  rw [Lib.byteCells_append]
  exact h1
theorem wstr (B b : Nat) (out : Bs) (s : Bs) (w : World) (h : Bld B b out w) (hl : out.length ≤ 100000000000) (hs : s.length ≤ 1000) (hB : B ≤ w.heap.size) :
    Calls Tryz.prog 30 #[.pointer (some ⟨b, 0, none⟩), .string (str s)] w fun e w' => e = .returned (.tuple #[.int .i64 s.length, .nilIface]) ∧ Bld B b (out ++ s) w' ∧ Below B w w' := by
  refine (Any.Builder_WriteString { Tryz.lays156 with } Tryz.Builder_Extra_156 B b _ (str s) w (.inr h) (by rw [Lib.byteCells_length, str_size]; omega) hB).mono ?_
  rintro e w' ⟨rfl, h1, h2⟩
  rw [str_size]
  refine ⟨rfl, ?_, h2⟩
  unfold Bld
  rw [Lib.byteCells_append]
  rw [Lib.strCells_eq, str_data] at h1
  exact h1
theorem qb_len (x : UInt8) : (qb x).length ≤ 4 := by
  unfold qb
  repeat' split
  all_goals simp
theorem flat_len : ∀ o : Bs, (o.flatMap qb).length ≤ 4 * o.length
  | [] => by simp
  | x :: o => by
    have := qb_len x
    have := flat_len o
    rw [List.flatMap_cons, List.length_append, List.length_cons]
    omega

theorem shr_all : ∀ c : Fin 256, IntKind.u8.wrap (Int.fdiv (c.val : Int) 16) = ((c.val / 16 : Nat) : Int) := by decide +kernel
theorem and_all : ∀ c : Fin 256, bits .and .u8 (c.val : Int) 15 = ((c.val % 16 : Nat) : Int) := by decide +kernel
theorem dig_all : ∀ c : Fin 16, ([48, 49, 50, 51, 52, 53, 54, 55, 56, 57, 97, 98, 99, 100, 101, 102] : Bs)[c.val]? = some (hexd c.val) := by decide +kernel
theorem run_dig {P : Program} (w : World) (t : TypeId) (k : IntKind) (i : Nat) (hi : i < 16) (h : P.underlying t = some .string) : (Instr.index t (.string ⟨#[48, 49, 50, 51, 52, 53, 54, 55, 56, 57, 97, 98, 99, 100, 101, 102]⟩) (.int k (i : Int))).run P w = .ok (.int .u8 (hexd i).toNat) w := by
  haveI : StrAt [48, 49, 50, 51, 52, 53, 54, 55, 56, 57, 97, 98, 99, 100, 101, 102] (i : Int) (hexd i) := ⟨by omega, by simpa using dig_all ⟨i, hi⟩⟩
  exact run_index_str w t [48, 49, 50, 51, 52, 53, 54, 55, 56, 57, 97, 98, 99, 100, 101, 102] k (i : Int) (hexd i) h

theorem dig_fin : ∀ c : Fin 16, (⟨#[48, 49, 50, 51, 52, 53, 54, 55, 56, 57, 97, 98, 99, 100, 101, 102]⟩ : ByteArray)[c.val]'(c.isLt) = hexd c.val := by decide +kernel
theorem dig_get (i : Nat) (hi : i < 16) (h : i < (⟨#[48, 49, 50, 51, 52, 53, 54, 55, 56, 57, 97, 98, 99, 100, 101, 102]⟩ : ByteArray).size) : (⟨#[48, 49, 50, 51, 52, 53, 54, 55, 56, 57, 97, 98, 99, 100, 101, 102]⟩ : ByteArray)[i]'h = hexd i := dig_fin ⟨i, hi⟩
theorem out_next {o : Bs} {i : Nat} {x : UInt8} (h : o[i]? = some x) : (34 : UInt8) :: (o.take (i + 1)).flatMap qb = (34 :: (o.take i).flatMap qb) ++ qb x := by
  rw [List.take_add_one, h]
  simp
theorem out_len (o : Bs) (i : Nat) : ((34 : UInt8) :: (o.take i).flatMap qb).length ≤ 4 * o.length + 1 := by
  have h1 := flat_len (o.take i)
  have h2 : (o.take i).length ≤ o.length := by rw [List.length_take]; omega
  rw [List.length_cons]
  omega
/-- a write behind others -/
theorem wb (B b : Nat) (out : Bs) (x : UInt8) (n : Int) (hn : n = x.toNat) (w0 w : World) (h : Bld B b out w ∧ Below B w0 w) (hl : out.length ≤ 100000000000) (hB : B ≤ w0.heap.size) :
    Calls Tryz.prog 32 #[.pointer (some ⟨b, 0, none⟩), .int .u8 n] w fun e w' => e = .returned .nilIface ∧ Bld B b (out ++ [x]) w' ∧ Below B w0 w' := by
  subst hn
  refine (wbyte B b out x w h.1 hl (Nat.le_trans hB h.2.size)).mono ?_
  rintro e w' ⟨rfl, h1, h2⟩
  exact ⟨rfl, h1, h.2.trans h2⟩
theorem ws (B b : Nat) (out s : Bs) (sv : ByteArray) (hv : sv = str s) (w0 w : World) (h : Bld B b out w ∧ Below B w0 w) (hl : out.length ≤ 100000000000) (hs : s.length ≤ 1000) (hB : B ≤ w0.heap.size) :
    Calls Tryz.prog 30 #[.pointer (some ⟨b, 0, none⟩), .string sv] w fun e w' => e = .returned (.tuple #[.int .i64 s.length, .nilIface]) ∧ Bld B b (out ++ s) w' ∧ Below B w0 w' := by
  subst hv
  refine (wstr B b out s w h.1 hl hs (Nat.le_trans hB h.2.size)).mono ?_
  rintro e w' ⟨rfl, h1, h2⟩
  exact ⟨rfl, h1, h.2.trans h2⟩

set_option maxHeartbeats 3200000 in
theorem quoted_any (v : Value) (o : Bs) (w : World) (hb : Byt w v o) (hl : o.length ≤ 1000000000) :
    Calls Tryz.prog 18 #[v] w fun e w' => e = .returned (.string (str (Go.Sc.quoted o))) ∧ Below w.heap.size w w' := by
  obtain ⟨va, vc, rfl, hc1, hc2⟩ := hb.len
  have HB : Aside (Byt w (.slice va o.length vc) o) := hb
  have hlen : o.length ≤ 9223372036854775807 := by omega
  clear hb hc1 hc2
  have hf : Lib.IsBuilder 62 5 w.heap.size w.heap.size [] (w.alloc (.cells #[.pointer none, .slice none 0 0] 62)) := Lib.fresh_isBuilder _ _ w
  have hbel : Below w.heap.size w (w.alloc (.cells #[.pointer none, .slice none 0 0] 62)) := (Below.refl _ w).alloc (Nat.le_refl _) _
  have hw1 : Calls Tryz.prog 32 #[.pointer (some ⟨w.heap.size, 0, none⟩), .int .u8 34] (w.alloc (.cells #[.pointer none, .slice none 0 0] 62)) fun e w' => e = .returned .nilIface ∧ Bld w.heap.size w.heap.size [34] w' ∧ Below w.heap.size w w' := by
    refine (Any.Builder_WriteByte lays167 extra167 w.heap.size w.heap.size [] 34 _ hf (by simp) hbel.size).mono ?_
    rintro e w' ⟨rfl, h1, h2⟩
    exact ⟨rfl, h1, hbel.trans h2⟩
  clear hf hbel
  go_enter Tryz.func18, Tryz.ntmps18
  go_wp2_with fail
  refine hw1.mono ?_
  rintro e w1 ⟨rfl, h1⟩
  clear hw1
  go_wp2
  go_loopg [9] o.length (fun g t9 wr => ∃ i : Nat, t9 = .int .i64 i ∧ i ≤ o.length ∧ Aside (g = o.length - i) ∧ Aside (Bld w.heap.size w.heap.size (34 :: (o.take i).flatMap qb) wr ∧ Below w.heap.size w wr))
  case atStart => exact ⟨0, rfl, by omega, rfl, h1⟩
  case round =>
    obtain ⟨i, rfl, hi, A, H⟩ := hrel
    clear h1
    by_cases hlt : i < o.length
    · have hlt' : (i : Int) < o.length := by omega
      obtain ⟨x, hx⟩ : ∃ x, o[i]? = some x := ⟨o[i], by simp [hlt]⟩
      obtain ⟨b0, o0, rfl, hc⟩ := HB.out.at hx
      have hcell : wr.cell? ⟨b0, o0 + i, none⟩ = some (.int .u8 x.toNat) := by rw [H.out.2.cell (World.block_lt_of_cell? w _ hc)]; exact hc
      have hol := out_len o i
      have HN : Aside ((34 : UInt8) :: (o.take (i + 1)).flatMap qb = (34 :: (o.take i).flatMap qb) ++ qb x) := out_next hx
      obtain ⟨out, hout⟩ : ∃ out, (34 : UInt8) :: (o.take i).flatMap qb = out := ⟨_, rfl⟩
      rw [hout] at H HN hol
      have hol' : out.length ≤ 4000000001 := by omega
      have HX : Aside (x.toNat < 256) := x.toNat_lt
      clear hx hc hol hout
      by_cases x1 : x = 34 ∨ x = 92
      · have hq : qb x = [92, x] := by unfold qb; rw [if_pos x1]
        have x1' : (x.toNat : Int) = 34 ∨ (x.toNat : Int) = 92 := by rcases x1 with rfl | rfl <;> simp
        rw [hq] at HN
        clear x1 hq
        rcases x1' with x1' | x1'
        · go_wp2_with fail
          refine (wb w.heap.size w.heap.size (out) 92 _ (by rfl) w wr H.out (by first | omega | (simp only [List.length_append, List.length_cons, List.length_nil]; omega)) (Nat.le_refl _)).mono ?_
          rintro e w2 ⟨rfl, H2⟩
          go_wp2_with fail
          refine (wb w.heap.size w.heap.size (out ++ [92]) x _ (by omega) w w2 H2 (by first | omega | (simp only [List.length_append, List.length_cons, List.length_nil]; omega)) (Nat.le_refl _)).mono ?_
          rintro e w3 ⟨rfl, H3⟩
          go_wp2
          go_roundg (o.length - (i + 1))
          case measure => have := A.out; omega
          case rel => exact ⟨i + 1, by go_num, by omega, rfl, ⟨by rw [HN.out]; simpa using H3.1, H3.2⟩⟩
        · go_wp2_with fail
          refine (wb w.heap.size w.heap.size (out) 92 _ (by rfl) w wr H.out (by first | omega | (simp only [List.length_append, List.length_cons, List.length_nil]; omega)) (Nat.le_refl _)).mono ?_
          rintro e w2 ⟨rfl, H2⟩
          go_wp2_with fail
          refine (wb w.heap.size w.heap.size (out ++ [92]) x _ (by omega) w w2 H2 (by first | omega | (simp only [List.length_append, List.length_cons, List.length_nil]; omega)) (Nat.le_refl _)).mono ?_
          rintro e w3 ⟨rfl, H3⟩
          go_wp2
          go_roundg (o.length - (i + 1))
          case measure => have := A.out; omega
          case rel => exact ⟨i + 1, by go_num, by omega, rfl, ⟨by rw [HN.out]; simpa using H3.1, H3.2⟩⟩
      · have hq1 : ¬ (x.toNat : Int) = 34 ∧ ¬ (x.toNat : Int) = 92 := by
          refine ⟨fun h => x1 (.inl (UInt8.toNat_inj.mp (by simpa using (by omega : x.toNat = 34)))), fun h => x1 (.inr (UInt8.toNat_inj.mp (by simpa using (by omega : x.toNat = 92))))⟩
        obtain ⟨q1, q2⟩ := hq1
        have b1 : ((x.toNat : Int) == 34) = false := by simpa using q1
        have b2 : ((x.toNat : Int) == 92) = false := by simpa using q2
        by_cases x2 : x = 10
        · have hq : qb x = [92, 110] := by unfold qb; rw [if_neg x1, if_pos x2]
          have x2' : (x.toNat : Int) = 10 := by subst x2; rfl
          rw [hq] at HN
          clear x1 x2 hq
          go_wp2_with fail
          refine (ws w.heap.size w.heap.size (out) [92, 110] _ (by rfl) w wr H.out (by first | omega | (simp only [List.length_append, List.length_cons, List.length_nil]; omega)) (by simp) (Nat.le_refl _)).mono ?_
          rintro e w2 ⟨rfl, H2⟩
          go_wp2
          go_roundg (o.length - (i + 1))
          case measure => have := A.out; omega
          case rel => exact ⟨i + 1, by go_num, by omega, rfl, ⟨by rw [HN.out]; simpa using H2.1, H2.2⟩⟩
        · have q3 : ¬ (x.toNat : Int) = 10 := fun h => x2 (UInt8.toNat_inj.mp (by simpa using (by omega : x.toNat = 10)))
          have b3 : ((x.toNat : Int) == 10) = false := by simpa using q3
          by_cases x3 : x.toNat < 32 ∨ 126 < x.toNat
          · have hq : qb x = [92, 120, hexd (x.toNat / 16), hexd (x.toNat % 16)] := by unfold qb; rw [if_neg x1, if_neg x2, if_pos x3]
            have x3' : (x.toNat : Int) < 32 ∨ ((126 : Int) < x.toNat ∧ ¬ (x.toNat : Int) < 32) := by omega
            rw [hq] at HN
            clear x1 x2 x3 hq
            have g1 : (x.toNat : Int) / 16 < 16 := by have := HX.out; omega
            have g0 : 0 ≤ (x.toNat : Int) / 16 := by omega
            have e2 := and_all ⟨x.toNat, HX.out⟩
            simp only at e2
            rcases x3' with x3' | ⟨x3', x4'⟩
            · go_wp2_with fail
              refine (ws w.heap.size w.heap.size (out) [92, 120] _ (by rfl) w wr H.out (by first | omega | (simp only [List.length_append, List.length_cons, List.length_nil]; omega)) (by simp) (Nat.le_refl _)).mono ?_
              rintro e w2 ⟨rfl, H2⟩
              go_wp2_with fail
              refine (wb w.heap.size w.heap.size (out ++ [92, 120]) (hexd (x.toNat / 16)) _ (by rw [dig_get (x.toNat / 16) (by have := HX.out; omega)]) w w2 H2 (by first | omega | (simp only [List.length_append, List.length_cons, List.length_nil]; omega)) (Nat.le_refl _)).mono ?_
              rintro e w3 ⟨rfl, H3⟩
              go_wp2_with fail
              refine (wb w.heap.size w.heap.size (out ++ [92, 120] ++ [hexd (x.toNat / 16)]) (hexd (x.toNat % 16)) _ (by rw [dig_get (x.toNat % 16) (by have := HX.out; omega)]) w w3 H3 (by first | omega | (simp only [List.length_append, List.length_cons, List.length_nil]; omega)) (Nat.le_refl _)).mono ?_
              rintro e w4 ⟨rfl, H4⟩
              go_wp2
              go_roundg (o.length - (i + 1))
              case measure => have := A.out; omega
              case rel => exact ⟨i + 1, by go_num, by omega, rfl, ⟨by rw [HN.out]; simpa using H4.1, H4.2⟩⟩
            · go_wp2_with fail
              refine (ws w.heap.size w.heap.size (out) [92, 120] _ (by rfl) w wr H.out (by first | omega | (simp only [List.length_append, List.length_cons, List.length_nil]; omega)) (by simp) (Nat.le_refl _)).mono ?_
              rintro e w2 ⟨rfl, H2⟩
              go_wp2_with fail
              refine (wb w.heap.size w.heap.size (out ++ [92, 120]) (hexd (x.toNat / 16)) _ (by rw [dig_get (x.toNat / 16) (by have := HX.out; omega)]) w w2 H2 (by first | omega | (simp only [List.length_append, List.length_cons, List.length_nil]; omega)) (Nat.le_refl _)).mono ?_
              rintro e w3 ⟨rfl, H3⟩
              go_wp2_with fail
              refine (wb w.heap.size w.heap.size (out ++ [92, 120] ++ [hexd (x.toNat / 16)]) (hexd (x.toNat % 16)) _ (by rw [dig_get (x.toNat % 16) (by have := HX.out; omega)]) w w3 H3 (by first | omega | (simp only [List.length_append, List.length_cons, List.length_nil]; omega)) (Nat.le_refl _)).mono ?_
              rintro e w4 ⟨rfl, H4⟩
              go_wp2
              go_roundg (o.length - (i + 1))
              case measure => have := A.out; omega
              case rel => exact ⟨i + 1, by go_num, by omega, rfl, ⟨by rw [HN.out]; simpa using H4.1, H4.2⟩⟩
          · have hq : qb x = [x] := by unfold qb; rw [if_neg x1, if_neg x2, if_neg x3]
            have x3' : ¬ (x.toNat : Int) < 32 := by omega
            have x4' : ¬ (126 : Int) < x.toNat := by omega
            rw [hq] at HN
            clear x1 x2 x3 hq
            go_wp2_with fail
            refine (wb w.heap.size w.heap.size (out) x _ (by rfl) w wr H.out (by first | omega | (simp only [List.length_append, List.length_cons, List.length_nil]; omega)) (Nat.le_refl _)).mono ?_
            rintro e w2 ⟨rfl, H2⟩
            go_wp2
            go_roundg (o.length - (i + 1))
            case measure => have := A.out; omega
            case rel => exact ⟨i + 1, by go_num, by omega, rfl, ⟨by rw [HN.out]; simpa using H2.1, H2.2⟩⟩
    · have hlt' : ¬ (i : Int) < o.length := by omega
      have hol := out_len o i
      have HQ : Aside ((34 : UInt8) :: (o.take i).flatMap qb ++ [34] = Go.Sc.quoted o) := (by rw [List.take_of_length_le (by omega)]; rfl : _ = _)
      obtain ⟨out, hout⟩ : ∃ out, (34 : UInt8) :: (o.take i).flatMap qb = out := ⟨_, rfl⟩
      rw [hout] at H HQ hol
      have hol' : out.length ≤ 4000000001 := by omega
      clear hol hout
      go_wp2_with fail
      refine (wb w.heap.size w.heap.size (out) 34 _ (by rfl) w wr H.out (by first | omega | (simp only [List.length_append, List.length_cons, List.length_nil]; omega)) (Nat.le_refl _)).mono ?_
      rintro e w2 ⟨rfl, H2⟩
      have hst := Any.Builder_String_any { Tryz.lays156 with } Tryz.Builder_Extra_156 w.heap.size w.heap.size (out ++ [34]) w2 (.inr H2.1) H2.2.size
      go_wp2_with fail
      refine hst.mono ?_
      rintro e w3 ⟨rfl, hb3⟩
      go_wp2
      go_ret
      exact ⟨by rw [HQ.out]; rfl, H2.2.trans hb3⟩
end Go.Proofs.YtebhnbecjmdicaaGreatDoor

namespace Go.Proofs.YtebhnbecjmdicaaGreatDoor
set_option linter.unusedSimpArgs false
set_option linter.unusedVariables false
open Go.RowKit Go.Sl Go.Sc

attribute [local go_sem] Go.Sl.cell_sat Go.Sl.frozen_sat Go.Sc.str_toList Go.Sc.str_size Go.Sc.str_extract

/-- letters as a number to the base 16 -/
def hexL : Nat → Bs → Option Nat
  | acc, [] => some acc
  | acc, c :: l => match hexV c with
    | some d => hexL (acc * 16 + d) l
    | none => none
theorem lo_all : ∀ c : Fin 256, bits .or .u8 (c.val : Int) 32 = ((c.val ||| 32 : Nat) : Int) := by decide +kernel
theorem hex_no : ∀ c : Fin 256, hexV (UInt8.ofNat c.val) = none → (c.val < 48 ∨ 57 < c.val) ∧ (c.val ||| 32 < 97 ∨ 102 < c.val ||| 32) := by decide +kernel
theorem hex_yes : ∀ c : Fin 256, (c.val < 48 ∨ 57 < c.val) → hexV (UInt8.ofNat c.val) ≠ none → 97 ≤ c.val ||| 32 ∧ c.val ||| 32 ≤ 102 ∧ hexV (UInt8.ofNat c.val) = some ((c.val ||| 32) - 87) := by decide +kernel
theorem hex_dig : ∀ c : Fin 256, 48 ≤ c.val → c.val ≤ 57 → hexV (UInt8.ofNat c.val) = some (c.val - 48) := by decide +kernel
theorem of8 (c : UInt8) : UInt8.ofNat c.toNat = c := by simp

def puR (t : TypeId) : Option Nat → Value
  | some n => .tuple #[.int .u64 n, .nilIface]
  | none => .tuple #[.int .u64 0, .iface t (.int .i64 2)]

set_option maxHeartbeats 32000000 in
set_option maxRecDepth 100000 in
theorem ipu_any (bs : Bs) (hlen : bs.length = 2) (w : World) :
    Calls Tryz.prog 102 #[.string (str bs), .int .i64 16, .int .i64 8] w fun e w' => e = .returned (puR 152 (hexL 0 bs)) ∧ Below w.heap.size w w' := by
  have hsz : (str bs).size = 2 := by rw [str_size, hlen]
  have hemp : (bs == []) = false := by cases bs <;> simp_all
  have hcv := Lib.run_convert_string_bytes (P := Tryz.prog) w 9 23 5 (str bs) (u := .string) Tryz.underlying9 Tryz.underlying23 Tryz.underlying5
  rw [hsz] at hcv
  have hB : ∀ j, j < 2 → (Lib.bytesWorld w 5 (str bs)).cell? ⟨w.heap.size, j, none⟩ = some (.int .u8 (bs.getD j 0).toNat) := fun j hj => by
    have h := Lib.bytesWorld_cell w 5 (str bs) j (by rw [hsz]; exact hj)
    rw [str_data] at h
    exact h
  have hbel := Lib.bytesWorld_below w 5 (str bs)
  obtain ⟨W1, hW1⟩ : ∃ W1, W1 = Lib.bytesWorld w 5 (str bs) := ⟨_, rfl⟩
  rw [← hW1] at hcv hB hbel
  obtain ⟨hx, hhx⟩ : ∃ hx, hexL 0 bs = hx := ⟨_, rfl⟩
  rw [hhx]
  have HH : Aside (hexL 0 bs = hx ∧ bs.length = 2) := ⟨hhx, hlen⟩
  clear hW1 hhx hlen hsz
  have HB : Aside (∀ j, j < 2 → W1.cell? ⟨w.heap.size, j, none⟩ = some (.int .u8 (bs.getD j 0).toNat)) := hB
  have HW : Aside (Below w.heap.size w W1) := hbel
  clear hB hbel
  have hmv : IntKind.u64.wrap (IntKind.u64.wrap 256 - 1) = 255 := by
    rw [IntKind.wrap_u64, IntKind.wrap_u64]
    decide
  go_enter Tryz.func102, Tryz.ntmps102
  go_wp2
  go_loopg [12, 13, 101] 2 (fun g t12 t13 t101 wr => ∃ (k acc : Nat) (a : Int), t12 = .bool false ∧ t13 = .int .u64 a ∧ t101 = .int .i64 k ∧ k ≤ 2 ∧ Aside (acc ≤ 255 ∧ a = acc ∧ g = 2 - k ∧ acc < 16 ^ k ∧ hx = hexL acc (bs.drop k)) ∧ W1 = wr)
  case atStart => exact ⟨0, 0, 0, rfl, rfl, rfl, by omega, ⟨by omega, rfl, rfl, by simp, HH.out.1.symm⟩, rfl⟩
  case round =>
    obtain ⟨k, acc, a, rfl, rfl, rfl, hk, A, rfl⟩ := hrel
    have ha := A.out.2.1
    have a0 : 0 ≤ a := by omega
    have a1 : a ≤ 255 := by have := A.out.1; omega
    by_cases hkn : k < 2
    · have hkn' : (k : Int) < 2 := by omega
      have hc := HB.out k hkn
      obtain ⟨c, hcq⟩ : ∃ c, bs.getD k 0 = c := ⟨_, rfl⟩
      rw [hcq] at hc
      have HD : Aside (bs.drop k = c :: bs.drop (k + 1) ∧ c.toNat < 256) := by
        have hl := HH.out.2
        refine ⟨?_, c.toNat_lt⟩
        rw [List.drop_eq_getElem_cons (by omega), ← hcq]
        simp [List.getD, List.getElem?_eq_getElem (show k < bs.length by omega)]
      clear hcq
      have hp : acc ≤ 15 := by
        have h := A.out.2.2.2.1
        have : (16 : Nat) ^ k ≤ 16 ^ 1 := Nat.pow_le_pow_right (by omega) (by omega)
        omega
      have NX : Aside (∀ d : Nat, d < 16 → hexV c = some d → acc * 16 + d ≤ 255 ∧ acc * 16 + d < 16 ^ (k + 1) ∧ hx = hexL (acc * 16 + d) (bs.drop (k + 1))) := fun d hd he => by
        refine ⟨by omega, ?_, ?_⟩
        · have h := A.out.2.2.2.1
          rw [Nat.pow_succ]
          omega
        · have h := A.out.2.2.2.2
          rw [HD.out.1] at h
          rw [h]
          show (match hexV c with
            | some d => hexL (acc * 16 + d) _
            | none => none) = _
          rw [he]
      have hpi : a ≤ 15 := by omega
      by_cases hdig : 48 ≤ c.toNat ∧ c.toNat ≤ 57
      · obtain ⟨d0, d1⟩ := hdig
        have hv := hex_dig ⟨c.toNat, HD.out.2⟩ d0 d1
        simp only [of8] at hv
        have HN : Aside (acc * 16 + (c.toNat - 48) ≤ 255 ∧ acc * 16 + (c.toNat - 48) < 16 ^ (k + 1) ∧ hx = hexL (acc * 16 + (c.toNat - 48)) (bs.drop (k + 1))) := NX.out _ (by omega) hv
        have i0 : (48 : Int) ≤ c.toNat := by omega
        have i1 : (c.toNat : Int) ≤ 57 := by omega
        have i2 : a * 16 + ((c.toNat : Int) - 48) ≤ 255 := by omega
        have hN : a * 16 + ((c.toNat : Int) - 48) = ((acc * 16 + (c.toNat - 48) : Nat) : Int) := by omega
        have HA : Aside (a * 16 + ((c.toNat : Int) - 48) = ((acc * 16 + (c.toNat - 48) : Nat) : Int)) := hN
        clear hN hp ha hv NX
        go_wp2
        go_roundg (2 - (k + 1))
        case measure => have := A.out.2.2.1; omega
        case rel => exact ⟨k + 1, acc * 16 + (c.toNat - 48), a * 16 + ((c.toNat : Int) - 48), rfl, by go_num, by go_num, by omega, ⟨HN.out.1, HA.out, rfl, HN.out.2⟩, rfl⟩
      · have hnd : (c.toNat : Int) < 48 ∨ (¬ (c.toNat : Int) < 48 ∧ (57 : Int) < c.toNat) := by omega
        have hlow := lo_all ⟨c.toNat, HD.out.2⟩
        simp only at hlow
        obtain ⟨lo, hlo⟩ : ∃ lo, c.toNat ||| 32 = lo := ⟨_, rfl⟩
        have hlo8 : lo < 256 := by rw [← hlo]; exact Nat.or_lt_two_pow (n := 8) HD.out.2 (by omega)
        have HL : Aside (∀ w, Calls Tryz.prog 153 #[.int .u8 c.toNat] w fun e w' => e = .returned (.int .u8 lo) ∧ w' = w) := fun w => by
          have h := Any.internal_strconv_lower Tryz.lays321 c.toNat w
          rw [hlow, hlo] at h
          exact h
        clear hlow
        cases hv : hexV c with
        | none =>
          have h2 := (hex_no ⟨c.toNat, HD.out.2⟩ (by simp only [of8]; exact hv)).2
          simp only [hlo] at h2
          have HE : Aside (hx = none) := (by
            have h := A.out.2.2.2.2
            rw [HD.out.1] at h
            rw [h]
            show (match hexV c with
              | some d => hexL (acc * 16 + d) _
              | none => none) = _
            rw [hv] : _ = _)
          have h3 : (lo : Int) < 97 ∨ (¬ (lo : Int) < 97 ∧ (122 : Int) < lo) ∨ ((97 : Int) ≤ lo ∧ (lo : Int) ≤ 122 ∧ (103 : Int) ≤ lo) := by omega
          clear hv NX h2 hdig ha hp
          by_cases h95 : c.toNat = 95
          · have e95 : (c.toNat : Int) = 95 := by omega
            have el : lo = 127 := by rw [← hlo, h95]; rfl
            subst el
            have HL2 : Aside (∀ w, Calls Tryz.prog 153 #[.int .u8 95] w fun e w' => e = .returned (.int .u8 127) ∧ w' = w) := by
              have h := HL.out
              rw [e95] at h
              exact h
            rw [e95] at hc
            clear hlo HL h95 e95 h3 hnd hlo8
            go_wp2_with (go_at_call 153; refine (HL2.out _).mono ?_; rintro e w' ⟨rfl, rfl⟩)
            all_goals go_ret2
            all_goals exact ⟨by rw [HE.out]; rfl, HW.out⟩
          have b95 : ((c.toNat : Int) == 95) = false := by simp; omega
          clear hlo h95
          rcases hnd with n1 | ⟨n0, n1⟩
          · rcases h3 with m1 | ⟨m0, m1⟩ | ⟨m0, m1, m2⟩
            all_goals
              go_wp2_with (go_at_call 153; refine (HL.out _).mono ?_; rintro e w' ⟨rfl, rfl⟩)
              all_goals go_ret2
              all_goals exact ⟨by rw [HE.out]; rfl, HW.out⟩
          · rcases h3 with m1 | ⟨m0, m1⟩ | ⟨m0, m1, m2⟩
            all_goals
              go_wp2_with (go_at_call 153; refine (HL.out _).mono ?_; rintro e w' ⟨rfl, rfl⟩)
              all_goals go_ret2
              all_goals exact ⟨by rw [HE.out]; rfl, HW.out⟩
        | some d =>
          obtain ⟨y1, y2, y3⟩ := hex_yes ⟨c.toNat, HD.out.2⟩ (by simp only; omega) (by simp only [of8]; rw [hv]; simp)
          simp only [of8, hlo] at y1 y2 y3
          have HN : Aside (acc * 16 + (lo - 87) ≤ 255 ∧ acc * 16 + (lo - 87) < 16 ^ (k + 1) ∧ hx = hexL (acc * 16 + (lo - 87)) (bs.drop (k + 1))) := NX.out _ (by omega) y3
          have i0 : (97 : Int) ≤ lo := by omega
          have i1 : (lo : Int) ≤ 102 := by omega
          have i2 : a * 16 + ((lo : Int) - 87) ≤ 255 := by omega
          have HA : Aside (a * 16 + ((lo : Int) - 87) = ((acc * 16 + (lo - 87) : Nat) : Int)) := (by omega : _ = _)
          have b95 : ((c.toNat : Int) == 95) = false := by
            simp only [beq_eq_false_iff_ne, ne_eq]
            intro h
            have : c.toNat = 95 := by omega
            rw [this] at hlo
            have : (95 ||| 32 : Nat) = 127 := rfl
            omega
          clear hp ha hv NX hlo y3 y1 y2 hdig
          rcases hnd with n1 | ⟨n0, n1⟩
          all_goals
            go_wp2_with (go_at_call 153; refine (HL.out _).mono ?_; rintro e w' ⟨rfl, rfl⟩)
            go_roundg (2 - (k + 1))
            case measure => have := A.out.2.2.1; omega
            case rel => exact ⟨k + 1, acc * 16 + (lo - 87), a * 16 + ((lo : Int) - 87), rfl, by go_num, by go_num, by omega, ⟨HN.out.1, HA.out, rfl, HN.out.2⟩, rfl⟩
    · obtain rfl : k = 2 := by omega
      have HE : Aside (hx = some acc) := (by
        have h := A.out.2.2.2.2
        rw [List.drop_eq_nil_of_le (by have := HH.out.2; omega)] at h
        exact h : _ = _)
      subst ha
      go_wp2
      go_ret2
      exact ⟨by rw [HE.out]; rfl, HW.out⟩
end Go.Proofs.YtebhnbecjmdicaaGreatDoor
