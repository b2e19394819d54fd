/-
  Of any pages in a file a root is found to be a tree just if it is one in the form of the document. No condition. (part 35)
-/
import Derived.Test.YtfhbmblbidcmmaaGreatRk33
import Derived.Test.YtfhbmblbidcmmaaGreatRk34
import Derived.Test.YtfhbmblbidcmmaaGreatRk31
import Derived.BigQuiet
import Derived.IntWalk
import Derived.Test.YtfhbmblbidcmmaaGreatRk25
set_option linter.unusedSimpArgs false
set_option linter.unusedVariables false
namespace Go.Proofs.YtfhbmblbidcmmaaGreat
set_option linter.unusedSimpArgs false
set_option linter.unusedVariables false
open Go.Sl Go.Dk Go.Tr
def Clean (s : Ck) : Prop := ∀ n ∈ s.its, n.mkd = false
theorem Clean.dirty {s : Ck} (h : Clean s) (no : Int) : s.dirty no = false := by
 rw [Bool.eq_false_iff]
 intro hd
 obtain ⟨n, hn, hm, _⟩ := dirty_iff.1 hd
 rw [h n hn] at hm
 cases hm
theorem Clean.write {s : Ck} (h : Clean s) (no : Int) : s.write no = (0, s) := by
 unfold Ck.write
 rw [if_pos (h.dirty no)]
theorem Clean.release {s : Ck} (h : Clean s) (no : Int) : (s.release no).2.d = s.d ∧ (s.release no).2.nm = s.nm ∧ Clean (s.release no).2 := by
 unfold Ck.release
 rw [h.write no, if_pos (show ((0 : Int), s).1 = 0 from rfl)]
 refine ⟨rfl, rfl, fun n hn => ?_⟩
 have hn : n ∈ (if dropB s.its no = true then outI s.its no else s.its) := hn
 split at hn
 · exact h n (List.mem_filter.1 hn).1
 · exact h n hn
theorem Clean.room {s : Ck} (h : Clean s) : s.room.2.d = s.d ∧ s.room.2.nm = s.nm ∧ Clean s.room.2 := by
 unfold Ck.room
 split
 · exact ⟨rfl, rfl, h⟩
 · split
   · exact ⟨rfl, rfl, h⟩
   · exact h.release _
theorem Clean.take {s : Ck} (h : Clean s) (no : Int) (b : List UInt8) : (s.take no b).2.d = s.d ∧ (s.take no b).2.nm = s.nm ∧ Clean (s.take no b).2 := by
 obtain ⟨h1, h2, h3⟩ := h.room
 unfold Ck.take
 split
 · refine ⟨h1, h2, fun n hn => ?_⟩
   rcases List.mem_append.1 hn with hn | hn
   · exact h3 n hn
   · simp at hn; subst hn; rfl
 · exact ⟨h1, h2, h3⟩
theorem Clean.get {s : Ck} (h : Clean s) (no : Int) : (s.get no).2.2.d = s.d ∧ (s.get no).2.2.nm = s.nm ∧ Clean (s.get no).2.2 := by
 unfold Ck.get
 split
 · exact ⟨rfl, rfl, h⟩
 · split
   · exact ⟨rfl, rfl, fun n hn => h n ((useI_perm s.its no).mem_iff.1 hn)⟩
   · obtain ⟨h1, h2, h3⟩ := h.take no (s.d.read s.nm (no * 256) 256).2
     simp only
     split
     · split
       · exact ⟨h1, h2, h3⟩
       · exact ⟨h1, h2, h3⟩
     · exact ⟨rfl, rfl, h⟩
def fileOf (s : TS) : List UInt8 := fnow s.ck.d s.ck.nm
theorem Good.pf {T : Nat} {s : Ck} (g : Good T s) : Pf.Good T s := ⟨⟨g.fine.nmd, g.fine.nf⟩, g.pins, g.clean, g.top⟩
theorem clean_has {T m : Nat} {s : Ck} (ok : CkOk m s) (g : Pf.Good T s) (h : Clean s) {k : Int} {b : List UInt8} (hb : Has s k b) : Filed (fnow s.d s.nm) k b := by
 rcases hb with hb | hb
 · have hk : hasI s.its k = true := by rw [ok.same k, hb]; rfl
   obtain ⟨n, hn, e⟩ := List.mem_map.1 (hasI_iff.1 hk)
   subst e
   exact g.clean n hn (h n hn) b hb
 · exact hb.2
theorem filed_has {T m : Nat} {s : Ck} (ok : CkOk m s) (g : Pf.Good T s) (h : Clean s) {k : Int} {b : List UInt8} (hb : Filed (fnow s.d s.nm) k b) : Has s k b := by
 cases hp : pget k s.pgs with
 | none => exact .inr ⟨hp, hb⟩
 | some c =>
   have h1 := clean_has ok g h (.inl hp)
   have : c = b := by rw [← h1.2.2, hb.2.2]
   exact .inl (by rw [hp, this])
theorem get_code {T m : Nat} {s : Ck} (ok : CkOk m s) (g : Pf.Good T s) (up : s.d.down = false) (h : Clean s ∨ (s.its.length : Int) < s.cap) (no : Int) : (s.get no).1 = 0 ∨ (s.get no).1 = 1 ∨ (s.get no).1 = 6 := by
 unfold Ck.get
 by_cases h1 : no < 0 ∨ 1048576 ≤ no
 · rw [if_pos h1]; exact .inr (.inl rfl)
 rw [if_neg h1]
 cases hh : hasI s.its no with
 | true => rw [if_pos rfl]; exact .inl rfl
 | false =>
   rw [if_neg (by simp)]
   have hrm : s.room.1 = 0 := by
    unfold Ck.room
    by_cases hz : (s.pgs.length : Int) < s.cap
    · rw [if_pos hz]
    · rw [if_neg hz]
      rcases h with h | h
      · cases ho : oldI s.its with
        | none =>
          exfalso
          have h1 := ok.cap
          have h2 := ok.len
          have h3 : 0 < s.its.length := by omega
          obtain ⟨n, hn⟩ := List.exists_mem_of_length_pos h3
          have := List.find?_eq_none.1 ho n hn
          simp [g.pins n hn] at this
        | some n =>
          simp only
          unfold Ck.release
          rw [h.write, if_pos rfl]
      · have := ok.len
        omega
   rcases Pf.dk_read g.fine (no := no) (by omega) with ⟨_, hr⟩ | ⟨_, hr⟩ | ⟨hd, _⟩
   · simp only [hr]
     rw [if_pos trivial]
     unfold Ck.take
     rw [if_pos hrm]
     exact .inl rfl
   · simp only
     rw [if_neg (by rcases hr with h | h <;> rw [h] <;> decide)]
     refine .inr (.inr ?_)
     rcases hr with h | h
     · rw [if_pos h]
     · rw [if_neg (by rw [h]; decide), h]
   · rw [up] at hd; cases hd
theorem get_none {T m : Nat} {s : Ck} (ok : CkOk m s) (g : Pf.Good T s) (up : s.d.down = false) (h : Clean s) {no : Int} (h0 : 0 ≤ no) (h1 : no < 1048576) (hl : (fnow s.d s.nm).length < 256 * no.toNat + 256) : (s.get no).1 = 6 := by
 have hh : hasI s.its no = false := by
  cases hh : hasI s.its no with
  | false => rfl
  | true =>
    obtain ⟨b, hb, _⟩ := ok.key hh
    have := (clean_has ok g h (.inl hb)).2.1
    omega
 unfold Ck.get
 rw [if_neg (by omega), hh]
 simp only [Bool.false_eq_true, if_false]
 rcases Pf.dk_read g.fine h0 with ⟨hl2, _⟩ | ⟨_, hr | hr⟩ | ⟨hd, _⟩
 · omega
 · rw [hr]; rfl
 · rw [hr]; rfl
 · rw [up] at hd; cases hd
def rdOut (o : Option Nd) (s : TS) : Res TS Nd := match o with
 | some n => .ok n s
 | none => .fault 13 s
structure Snug (V : Int → Option Nd) (s : Ck) : Prop where
 none : s.d.get s.nm = none
 small : (s.its.length : Int) < s.cap
 view : ∀ p, V p = if p < 1 then Option.none else match pget p s.pgs with | some b => openNd p b | Option.none => Option.none
theorem Snug.get {V : Int → Option Nd} {m : Nat} {s : Ck} (h : Snug V s) (ok : CkOk m s) (hd : s.d.down = false) (no : Int) : (s.get no).2.2.d = s.d ∧ Snug V (s.get no).2.2 ∧ (pget no s.pgs = Option.none → (s.get no).1 = 1 ∨ (s.get no).1 = 6) := by
 unfold Ck.get
 split
 · exact ⟨rfl, h, fun _ => .inl rfl⟩
 · split
   · next hh =>
     refine ⟨rfl, ⟨h.none, by rw [(useI_perm s.its no).length_eq]; exact h.small, h.view⟩, fun e => ?_⟩
     rw [ok.same, e] at hh
     cases hh
   · have h6 := may_six ok.nm hd h.none
     have hr : s.d.read s.nm (no * 256) 256 = (6, []) := by unfold Dk.read; rw [if_pos (by rw [h6]; decide), h6]
     simp only [hr]
     exact ⟨rfl, h, fun _ => .inr rfl⟩
variable [TopN]
structure Rdy (V : Int → Option Nd) (m : Nat) (s : TS) : Prop where
 ts : TsI s
 good : Pf.Good TOP s.ck
 up : s.ck.d.down = false
 look : (Clean s.ck ∧ V = fileNode (fileOf s)) ∨ Snug V s.ck
 left : m ≤ leftOps s
theorem Rdy.out {V : Int → Option Nd} {m : Nat} {s : TS} (h : Rdy V m s) {p : Int} (hp : p < 1) : V p = none := by
 rcases h.look with ⟨_, h1⟩ | h1
 · rw [h1]; unfold fileNode; rw [if_pos (.inl hp)]
 · rw [h1.view, if_pos hp]
theorem Rdy.read {V : Int → Option Nd} {m : Nat} {s : TS} (h : Rdy V (m + 1) s) {p : Int} (hp : p ≠ 0) : ∃ s', Rdy V m s' ∧ s'.sp = s.sp ∧ s'.ck.d = s.ck.d ∧ tRead p s = rdOut (V p) s' := by
 have ho : s.ops < opsMax := by
  have := h.left
  unfold leftOps at this
  omega
 have hts := h.ts.get p ho
 have hcode := get_code h.ts.ok h.good h.up (h.look.elim (fun x => .inl x.1) (fun x => .inr x.small)) p
 have hleft : m ≤ leftOps ⟨(s.ck.get p).2.2, s.sp, s.ops + 2⟩ := by
  have := h.left
  unfold leftOps at this ⊢
  simp only
  omega
 rcases h.look with ⟨hcl, hview⟩ | hsn
 · obtain ⟨c1, c2, c3⟩ := hcl.get p
   have hup : (s.ck.get p).2.2.d.down = false := by rw [c1]; exact h.up
   have hlook : ∀ q : TS, q.ck = (s.ck.get p).2.2 → (Clean q.ck ∧ V = fileNode (fileOf q)) ∨ Snug V q.ck := fun q e => .inl ⟨by rw [e]; exact c3, by
    have : fileOf q = fileOf s := by unfold fileOf; rw [e, c1, c2]
    rw [this]; exact hview⟩
   rw [tRead_eq ho]
   by_cases hr : p < 0 ∨ 1048576 ≤ p
   · have e : s.ck.get p = (1, [], s.ck) := by unfold Ck.get; rw [if_pos hr]
     have hv : V p = none := by rw [hview]; unfold fileNode; rw [if_pos (by omega)]
     refine ⟨_, ⟨hts, by rw [e]; exact h.good, hup, hlook _ rfl, hleft⟩, rfl, c1, ?_⟩
     rw [hv, e]
     simp [rdOut]
   · have h0 : 0 ≤ p := by omega
     have h1 : p < 1048576 := by omega
     have hg := Pf.get_good h.ts.ok h.good h0 h1
     refine ⟨_, ⟨hts, hg.good, hup, hlook _ rfl, hleft⟩, rfl, c1, ?_⟩
     by_cases hl : 256 * p.toNat + 256 ≤ (fnow s.ck.d s.ck.nm).length
     · have hf : Filed (fnow s.ck.d s.ck.nm) p (((fnow s.ck.d s.ck.nm).drop (256 * p.toNat)).take 256) := ⟨h0, hl, rfl⟩
       rcases hg.got _ (filed_has h.ts.ok h.good hcl hf) with e | e | ⟨e1, e2⟩
       · omega
       · omega
       · rw [if_pos e1, e2]
         have hv : V p = openNd p (((fnow s.ck.d s.ck.nm).drop (256 * p.toNat)).take 256) := by
          rw [hview]; unfold fileNode fileOf; rw [if_neg (by omega)]
         rw [hv]
         cases openNd p (((fnow s.ck.d s.ck.nm).drop (256 * p.toNat)).take 256) <;> rfl
     · have e := get_none h.ts.ok h.good h.up hcl h0 h1 (by omega)
       rw [if_neg (by rw [e]; omega), if_pos (.inl e)]
       have hv : V p = none := by rw [hview]; unfold fileNode fileOf; rw [if_pos (by omega)]
       rw [hv]
       rfl
 · obtain ⟨c1, c3, c4⟩ := hsn.get h.ts.ok h.up p
   have hup : (s.ck.get p).2.2.d.down = false := by rw [c1]; exact h.up
   rw [tRead_eq ho]
   by_cases hr : p < 0 ∨ 1048576 ≤ p
   · have e : s.ck.get p = (1, [], s.ck) := by unfold Ck.get; rw [if_pos hr]
     have hn : pget p s.ck.pgs = none := by
      cases hp2 : pget p s.ck.pgs with
      | none => rfl
      | some b => have := h.ts.ok.page _ (pget_mem hp2); simp only at this; omega
     have hv : V p = none := by rw [hsn.view, hn]; split <;> rfl
     refine ⟨_, ⟨hts, by rw [e]; exact h.good, hup, .inr c3, hleft⟩, rfl, c1, ?_⟩
     rw [hv, e]
     simp [rdOut]
   · have h0 : 0 ≤ p := by omega
     have h1 : p < 1048576 := by omega
     have hg := Pf.get_good h.ts.ok h.good h0 h1
     refine ⟨_, ⟨hts, hg.good, hup, .inr c3, hleft⟩, rfl, c1, ?_⟩
     cases hp2 : pget p s.ck.pgs with
     | none =>
       have hv : V p = none := by rw [hsn.view, hp2]; split <;> rfl
       rw [hv]
       rcases c4 hp2 with e | e
       · rw [if_neg (by rw [e]; omega), if_pos (.inr e)]; rfl
       · rw [if_neg (by rw [e]; omega), if_pos (.inl e)]; rfl
     | some b =>
       have hv : V p = openNd p b := by rw [hsn.view, hp2, if_neg (by omega)]
       rcases hg.got _ (.inl hp2) with e | e | ⟨e1, e2⟩
       · omega
       · omega
       · rw [if_pos e1, e2, hv]
         cases openNd p b <;> rfl
end Go.Proofs.YtfhbmblbidcmmaaGreat
namespace Go.Tr
theorem eBytes_take_bound {l : List Ent} (hm : ∀ x ∈ l, 0 ≤ x.len ∧ x.len ≤ 1048576) : ∀ i : Nat, 0 ≤ eBytes (l.take i) ∧ eBytes (l.take i) ≤ i * 1048576 := by
 intro i
 induction i with
 | zero => simp [eBytes]
 | succ i ih =>
   cases hx : l[i]? with
   | none =>
     have : l.take (i + 1) = l.take i := by
      have hl : l.length ≤ i := by simpa using hx
      rw [List.take_of_length_le hl, List.take_of_length_le (by omega)]
     rw [this]
     omega
   | some x =>
     have := hm x (List.mem_of_getElem? hx)
     rw [List.take_add_one, hx]
     simp only [Option.toList, eBytes_append]
     have : eBytes [x] = x.len := by simp [eBytes]
     omega
end Go.Tr
namespace Go.Proofs.YtfhbmblbidcmmaaGreat
set_option linter.unusedSimpArgs false
set_option linter.unusedVariables false
open Go.RowKit Go.Sl Go.Dk Go.Tr
attribute [local go_sem ↓] Go.wp_at_zero Go.wp_at_succ
attribute [local go_sem] Go.Sl.cell_sat Go.Sl.frozen_sat
set_option maxHeartbeats 800000 in
theorem total_any (l : List Ent) (v : Value) (B F : Assn) (w : World) (hE : ReadsE B v l) (hs : Sat (B * F) w) (hl : l.length ≤ 4294967296) (hm : ∀ x ∈ l, 0 ≤ x.len ∧ x.len ≤ 1048576) :
 Calls Tryz.prog 92 #[v] w fun e w' => e = .returned (.int .i64 (eBytes l)) ∧ Sat (B * F) w' := by
 obtain ⟨a0, c0, rfl, hE1, hE2⟩ := hE.v
 have HE : Aside (ReadsE B (.slice a0 l.length c0) l) := hE
 have HM : Aside (∀ i : Nat, 0 ≤ eBytes (l.take i) ∧ eBytes (l.take i) ≤ i * 1048576) := eBytes_take_bound hm
 have HMx : Aside (∀ x ∈ l, 0 ≤ x.len ∧ x.len ≤ 1048576) := hm
 obtain ⟨n, hn⟩ : ∃ n, l.length = n := ⟨_, rfl⟩
 rw [hn] at hl ⊢
 have HN : Aside (l.length = n) := hn
 haveI := hs.i
 clear hE hm hn
 go_enter Tryz.func92, Tryz.ntmps92
 go_wp2
 go_loopg [3, 8] n (fun g t3 t8 wr => ∃ (i : Nat), t8 = .int .i64 i ∧ t3 = .int .i64 (eBytes (l.take i)) ∧ i ≤ n ∧ Aside (g = n - i) ∧ Sat (B * F) wr)
 case atStart => exact ⟨0, rfl, by simp [eBytes], by omega, rfl, hs⟩
 case round =>
  obtain ⟨i, rfl, rfl, hi, A, hsr⟩ := hrel
  haveI := hsr.i
  clear hs
  by_cases hlt : i < n
  · have hlt' : (i : Int) < n := by omega
    obtain ⟨y, hy⟩ : ∃ y, l[i]? = some y := ⟨_, List.getElem?_eq_getElem (by rw [HN.out]; exact hlt)⟩
    obtain ⟨b, q, rfl, r1, r2, r3, r4⟩ := readsE_at HE.out hy
    have hb := HM.out i
    have hx := HMx.out y (List.mem_of_getElem? hy)
    have HT : Aside (eBytes (l.take (i + 1)) = eBytes (l.take i) + y.len) := eBytes_snoc hy
    obtain ⟨z, hz⟩ : ∃ z, eBytes (l.take i) = z := ⟨_, rfl⟩
    rw [hz] at hb HT ⊢
    obtain ⟨y1, y2, y3, y4⟩ := y
    simp only at r1 r2 r3 r4 hx HT
    clear hy hz
    go_wp2
    go_roundg (n - (i + 1))
    case measure => have := A.out; omega
    case rel =>
     refine ⟨i + 1, by go_num, by rw [HT.out], by omega, rfl, keep2 _ _⟩
  · have hlt' : ¬ (i : Int) < n := by omega
    obtain rfl : i = n := by omega
    rw [List.take_of_length_le (by rw [HN.out]; exact Nat.le_refl _)]
    go_wp2
    go_ret
    exact ⟨rfl, hsr⟩
theorem reads_one (y : Ent) (b : Nat) : ReadsE (Sl.block b TEn (erow y)) (.slice (some ⟨b, 0, none⟩) 1 1) [y] := by
 refine ⟨rfl, _, _, rfl, Nat.le_refl _, by omega, fun j u hj => ⟨b, 0, rfl, ?_⟩⟩
 have hj2 : (erow y)[j]? = some u := by simpa [ecs] using hj
 haveI : At (erow y) j u := ⟨hj2⟩
 rw [Nat.zero_add]
 infer_instance
set_option maxHeartbeats 800000 in
theorem part_any (x : Ent) (a b : Int) (F : Assn) (w : World) (hs : Sat F w) (h1 : -1099511627776 ≤ x.pos ∧ x.pos ≤ 1099511627776) (h2 : -1099511627776 ≤ a ∧ a ≤ 1099511627776) (h3 : -1099511627776 ≤ b ∧ b ≤ 1099511627776) :
 Calls Tryz.prog 95 #[entV x, .int .i64 a, .int .i64 b] w fun e w' => ∃ v G, e = .returned v ∧ ReadsE G v (Go.Tr.part x a b) ∧ Sat (G * F) w' := by
 obtain ⟨x1, x2, x3, x4⟩ := x
 unfold Go.Tr.part
 simp only at h1 ⊢
 haveI := hs.i
 by_cases hba : b ≤ a
 · rw [if_pos hba]
   go_enter Tryz.func95, Tryz.ntmps95
   go_wp2
   go_ret
   exact ⟨_, 1, rfl, ReadsR.nil 4 _, by rw [one_sep]; exact keep1 _⟩
 · rw [if_neg hba]
   have hba' : a < b := by omega
   by_cases hc : 0 < a ∨ b < x3
   · rw [if_pos hc]
     by_cases hl : x4 = 0
     · subst hl
       rw [if_neg (by simp)]
       rcases Int.lt_or_le 0 a with ha | ha
       · go_enter Tryz.func95, Tryz.ntmps95
         go_wp2
         go_ret
         first | exact ⟨_, Sl.block (w.heap.size + 1) TEn [.int .i64 (x1), .int .i64 (x2 + a), .int .i64 (b - a), .int .i64 (0)], rfl, reads_one ⟨x1, x2 + a, b - a, 0⟩ _, keep2 _ F⟩ | exact ⟨_, rfl, Sl.block (w.heap.size + 1) TEn [.int .i64 (x1), .int .i64 (x2 + a), .int .i64 (b - a), .int .i64 (0)], reads_one ⟨x1, x2 + a, b - a, 0⟩ _, keep2 _ F⟩
       · have hb : b < x3 := by omega
         have ha' : ¬ 0 < a := by omega
         go_enter Tryz.func95, Tryz.ntmps95
         go_wp2
         go_ret
         first | exact ⟨_, Sl.block (w.heap.size + 1) TEn [.int .i64 (x1), .int .i64 (x2 + a), .int .i64 (b - a), .int .i64 (0)], rfl, reads_one ⟨x1, x2 + a, b - a, 0⟩ _, keep2 _ F⟩ | exact ⟨_, rfl, Sl.block (w.heap.size + 1) TEn [.int .i64 (x1), .int .i64 (x2 + a), .int .i64 (b - a), .int .i64 (0)], reads_one ⟨x1, x2 + a, b - a, 0⟩ _, keep2 _ F⟩
     · have hl1 : (x4 != 0) = true := by simpa using hl
       rw [if_pos hl]
       rcases Int.lt_or_le 0 a with ha | ha
       · go_enter Tryz.func95, Tryz.ntmps95
         go_wp2
         go_ret
         first | exact ⟨_, Sl.block (w.heap.size + 1) TEn [.int .i64 (x1), .int .i64 (x2 + a), .int .i64 (b - a), .int .i64 (-1)], rfl, reads_one ⟨x1, x2 + a, b - a, -1⟩ _, keep2 _ F⟩ | exact ⟨_, rfl, Sl.block (w.heap.size + 1) TEn [.int .i64 (x1), .int .i64 (x2 + a), .int .i64 (b - a), .int .i64 (-1)], reads_one ⟨x1, x2 + a, b - a, -1⟩ _, keep2 _ F⟩
       · have hb : b < x3 := by omega
         have ha' : ¬ 0 < a := by omega
         go_enter Tryz.func95, Tryz.ntmps95
         go_wp2
         go_ret
         first | exact ⟨_, Sl.block (w.heap.size + 1) TEn [.int .i64 (x1), .int .i64 (x2 + a), .int .i64 (b - a), .int .i64 (-1)], rfl, reads_one ⟨x1, x2 + a, b - a, -1⟩ _, keep2 _ F⟩ | exact ⟨_, rfl, Sl.block (w.heap.size + 1) TEn [.int .i64 (x1), .int .i64 (x2 + a), .int .i64 (b - a), .int .i64 (-1)], reads_one ⟨x1, x2 + a, b - a, -1⟩ _, keep2 _ F⟩
   · rw [if_neg hc]
     have ha : ¬ 0 < a := by omega
     have hb : ¬ b < x3 := by omega
     go_enter Tryz.func95, Tryz.ntmps95
     go_wp2
     go_ret
     first | exact ⟨_, Sl.block (w.heap.size + 1) TEn [.int .i64 (x1), .int .i64 (x2), .int .i64 (x3), .int .i64 (x4)], rfl, reads_one ⟨x1, x2, x3, x4⟩ _, keep2 _ F⟩ | exact ⟨_, rfl, Sl.block (w.heap.size + 1) TEn [.int .i64 (x1), .int .i64 (x2), .int .i64 (x3), .int .i64 (x4)], reads_one ⟨x1, x2, x3, x4⟩ _, keep2 _ F⟩
theorem mayList_eq (l : List Ent) : mayList l = (l.all mayEnt && decide (eBytes l ≤ 1048576)) := rfl
theorem mayList_stop {l : List Ent} {i : Nat} {y : Ent} (hy : l[i]? = some y) (h : mayEnt y = false) : mayList l = false := by
 rw [mayList_eq]
 have : l.all mayEnt = false := by
  rw [List.all_eq_false]
  exact ⟨y, List.mem_of_getElem? hy, by simp [h]⟩
 rw [this]
 rfl
theorem may_one (y : Ent) : may ⟨true, [y], []⟩ = mayEnt y := by
 unfold may
 cases h : mayEnt y with
 | false => simp [h]
 | true =>
   have := mayE_bounds h
   simp [h, eBytes, kBytes, kScraps]
   omega
set_option maxHeartbeats 1600000 in
theorem tmay_any (l : List Ent) (v : Value) (B F : Assn) (w : World) (hE : ReadsE B v l) (hs : Sat (B * F) w) (hl : l.length ≤ 4294967296) :
 Calls Tryz.prog 79 #[v] w fun e w' => e = .returned (.bool (mayList l)) ∧ Sat (B * F) w' := by
 obtain ⟨a0, c0, rfl, hE1, hE2⟩ := hE.v
 have HE : Aside (ReadsE B (.slice a0 l.length c0) l) := hE
 obtain ⟨n, hn⟩ : ∃ n, l.length = n := ⟨_, rfl⟩
 rw [hn] at hl ⊢
 have HN : Aside (l.length = n) := hn
 obtain ⟨mr, hmr⟩ : ∃ r, mayList l = r := ⟨_, rfl⟩
 rw [hmr]
 have HR : Aside (mayList l = mr) := hmr
 haveI := hs.i
 clear hE hn hmr
 go_enter Tryz.func79, Tryz.ntmps79
 go_wp2
 go_loopg [3, 8] n (fun g t3 t8 wr => ∃ (i : Nat), t8 = .int .i64 i ∧ t3 = .int .i64 (eBytes (l.take i)) ∧ i ≤ n ∧ Aside (g = n - i) ∧ Aside ((∀ x ∈ l.take i, mayEnt x = true) ∧ 0 ≤ eBytes (l.take i) ∧ eBytes (l.take i) ≤ 1048576) ∧ Sat (B * F) wr)
 case atStart => exact ⟨0, rfl, by simp [eBytes], by omega, rfl, ⟨by simp, by simp [eBytes], by simp [eBytes]⟩, hs⟩
 case round =>
  obtain ⟨i, rfl, rfl, hi, A, HI, hsr⟩ := hrel
  haveI := hsr.i
  clear hs
  by_cases hlt : i < n
  · have hlt' : (i : Int) < n := by omega
    obtain ⟨y, hy⟩ : ∃ y, l[i]? = some y := ⟨_, List.getElem?_eq_getElem (by rw [HN.out]; exact hlt)⟩
    obtain ⟨b, q, rfl, r1, r2, r3, r4⟩ := readsE_at HE.out hy
    have HT : Aside (eBytes (l.take (i + 1)) = eBytes (l.take i) + y.len ∧ l.take (i + 1) = l.take i ++ [y]) := ⟨eBytes_snoc hy, take_snoc' hy⟩
    have hmay : ∀ (G : Assn) (w : World) (b : Nat), Sat (Sl.block b TEn (erow y) * G) w → Calls Tryz.prog 133 #[.agg #[.bool true, .slice (some ⟨b, 0, none⟩) 1 1, .slice none 0 0]] w fun e w' => e = .returned (.bool (mayEnt y)) ∧ Sat (Sl.block b TEn (erow y) * G) w' := fun G w b h => by
     rw [← may_one]
     refine may_any ⟨true, [y], []⟩ _ _ G w ⟨_, _, rfl, ?_, ReadsR.nil 4 _⟩ h (by simp) (by simp)
     refine ⟨rfl, _, _, rfl, Nat.le_refl _, by omega, fun j u hj => ⟨b, 0, rfl, ?_⟩⟩
     have hj2 : (erow y)[j]? = some u := by simpa [ecs] using hj
     haveI : At (erow y) j u := ⟨hj2⟩
     rw [Nat.zero_add]
     infer_instance
    have HMF : Aside (mayEnt y = false → mr = false) := fun h => HR.out.symm.trans (mayList_stop hy h)
    have hbd := HI.out.2
    obtain ⟨z, hz⟩ : ∃ z, eBytes (l.take i) = z := ⟨_, rfl⟩
    rw [hz] at hbd HT ⊢
    cases hme : mayEnt y with
    | false =>
      rw [hme] at hmay
      have hmr := HMF.out hme
      subst hmr
      obtain ⟨y1, y2, y3, y4⟩ := y
      unfold erow at hmay
      simp only at r1 r2 r3 r4 hmay
      clear hy hz hme
      go_wp2_with fail
      with_reducible refine Calls.mono (hmay _ _ _ (takeI (Sl.block _ TEn _))) ?_
      rintro e w2 ⟨rfl, q2⟩
      haveI := q2.i
      go_wp2
      go_ret
      exact ⟨rfl, keep2 _ _⟩
    | true =>
      rw [hme] at hmay
      have hyb := mayE_bounds hme
      have HY : Aside (mayEnt y = true) := hme
      obtain ⟨y1, y2, y3, y4⟩ := y
      unfold erow at hmay
      simp only at r1 r2 r3 r4 hmay hyb HT
      clear hme
      by_cases hbig : 1048576 < z + y3
      · have hmr : mr = false := by
         rw [← HR.out]
         rw [mayList_eq]
         by_cases hall : l.all mayEnt = true
         · have h1 : eBytes l = eBytes (l.take (i + 1)) + eBytes (l.drop (i + 1)) := by rw [← eBytes_append, List.take_append_drop]
           have h2 : 0 ≤ eBytes (l.drop (i + 1)) := by
            have := (eBytes_take_bound (l := l.drop (i + 1)) (fun x hx => by
             have := mayE_bounds (List.all_eq_true.1 hall x (List.mem_of_mem_drop hx))
             omega) (l.drop (i + 1)).length).1
            rwa [List.take_of_length_le (Nat.le_refl _)] at this
           have h3 := HT.out.1
           rw [decide_eq_false (by omega), Bool.and_false]
         · rw [Bool.not_eq_true] at hall
           rw [hall]
           rfl
        subst hmr
        clear hy hz
        go_wp2_with fail
        with_reducible refine Calls.mono (hmay _ _ _ (takeI (Sl.block _ TEn _))) ?_
        rintro e w2 ⟨rfl, q2⟩
        haveI := q2.i
        go_wp2
        go_ret
        exact ⟨rfl, keep2 _ _⟩
      · clear hy hz
        go_wp2_with fail
        with_reducible refine Calls.mono (hmay _ _ _ (takeI (Sl.block _ TEn _))) ?_
        rintro e w2 ⟨rfl, q2⟩
        haveI := q2.i
        go_wp2
        go_roundg (n - (i + 1))
        case measure => have := A.out; omega
        case rel =>
         refine ⟨i + 1, by go_num, by rw [HT.out.1], by omega, rfl, ⟨?_, by rw [HT.out.1]; omega, by rw [HT.out.1]; omega⟩, keep2 _ _⟩
         rw [HT.out.2]
         intro x hx
         rcases List.mem_append.1 hx with hx | hx
         · exact HI.out.1 x hx
         · simp at hx; subst hx; exact HY.out
  · have hlt' : ¬ (i : Int) < n := by omega
    obtain rfl : i = n := by omega
    have hmr : mr = true := by
     rw [← HR.out]
     have h := HI.out
     rw [List.take_of_length_le (by rw [HN.out]; exact Nat.le_refl _)] at h
     rw [mayList_eq]
     rw [List.all_eq_true.2 h.1, decide_eq_true h.2.2]
     rfl
    subst hmr
    go_wp2
    go_ret
    exact ⟨rfl, hsr⟩
end Go.Proofs.YtfhbmblbidcmmaaGreat
namespace Go.Tr
def OkE (y : Ent) : Prop := 0 ≤ y.pos ∧ y.pos ≤ 16777216 ∧ 1 ≤ y.len ∧ -1 ≤ y.lines ∧ y.lines ≤ y.len
theorem OkE.of {x : Ent} (h : mayEnt x = true) : OkE x ∧ x.len ≤ 1048576 := by
 unfold mayEnt at h
 simp only [decide_eq_true_eq] at h
 unfold OkE
 omega
theorem okE_len {o : List Ent} (h : ∀ y ∈ o, OkE y) : 0 ≤ eBytes o ∧ ∀ y ∈ o, y.len ≤ eBytes o := by
 induction o with
 | nil => simp [eBytes]
 | cons a l ih =>
   obtain ⟨h1, h2⟩ := ih fun y hy => h y (List.mem_cons_of_mem _ hy)
   have ha := h a (List.mem_cons_self ..)
   unfold OkE at ha
   have e : eBytes (a :: l) = a.len + eBytes l := by simp [eBytes]
   rw [e]
   refine ⟨by omega, fun y hy => ?_⟩
   rcases List.mem_cons.1 hy with rfl | hy
   · omega
   · have := h2 y hy; omega
theorem okE_join {o : List Ent} (h : ∀ y ∈ o, OkE y) {x : Ent} (hx : OkE x) : ∀ y ∈ joinTo o x, OkE y := by
 unfold joinTo
 cases hg : o.getLast? with
 | none => intro y hy; simp at hy; subst hy; exact hx
 | some a =>
   have ha := h a (List.mem_of_getLast? hg)
   simp only
   split
   · intro y hy
     rcases List.mem_append.1 hy with hy | hy
     · exact h y (List.dropLast_subset _ hy)
     · simp at hy
       subst hy
       unfold glue OkE at *
       simp only
       split <;> omega
   · intro y hy
     rcases List.mem_append.1 hy with hy | hy
     · exact h y hy
     · simp at hy; subst hy; exact hx
theorem joinTo_stop {p : List Ent} {a x : Ent} (h : meets a x = false) : joinTo (p ++ [a]) x = (p ++ [a]) ++ [x] := by
 unfold joinTo
 simp [h]
theorem joinTo_go {p : List Ent} {a x : Ent} (h : meets a x = true) : joinTo (p ++ [a]) x = p ++ [glue a x] := by
 unfold joinTo
 simp [h]
theorem joinTo_len (o : List Ent) (x : Ent) : (joinTo o x).length ≤ o.length + 1 := by
 unfold joinTo
 split
 · simp
 · split <;> simp
end Go.Tr
namespace Go.Proofs.YtfhbmblbidcmmaaGreat
set_option linter.unusedSimpArgs false
set_option linter.unusedVariables false
open Go.RowKit Go.Sl Go.Dk Go.Tr
attribute [local go_sem ↓] Go.wp_at_zero Go.wp_at_succ
attribute [local go_sem] Go.Sl.cell_sat Go.Sl.frozen_sat
def ReadsLL (B : Assn) (v : Value) (ls : List (List Ent)) : Prop := ∃ vs : List Value, ReadsR 1 B v ls.length vs ∧ vs.length = ls.length ∧ ∀ (i : Nat) (x : Value) (l : List Ent), vs[i]? = some x → ls[i]? = some l → ReadsE B x l
theorem ecs_last (p : List Ent) (a : Ent) : ecs (p ++ [a]) = ecs p ++ erow a := by simp [ecs]
theorem ecs_len (p : List Ent) : (ecs p).length = p.length * 4 := by
 induction p with
 | nil => rfl
 | cons a l ih =>
   have : ecs (a :: l) = erow a ++ ecs l := by simp [ecs]
   rw [this, List.length_append, ih, List.length_cons]
   simp [erow]
   omega
theorem ecs_at (p : List Ent) (a : Ent) (n : Nat) (hn : p.length = n) (j : Nat) (u : Value) (h : (erow a)[j]? = some u) : (ecs (p ++ [a]))[n * 4 + j]? = some u := by
 rw [ecs_last, List.getElem?_append_right (by rw [ecs_len, hn]; omega), ecs_len, hn, Nat.add_sub_cancel_left]
 exact h
theorem ecs_glue (p : List Ent) (a : Ent) (n : Nat) (hn : p.length = n) (l m : Int) : ((ecs (p ++ [a])).set (n * 4 + 2) (.int .i64 l)).set (n * 4 + 3) (.int .i64 m) = ecs (p ++ [⟨a.src, a.pos, l, m⟩]) := by
 rw [ecs_last, ecs_last, List.set_append_right _ _ (by rw [ecs_len, hn]; omega), List.set_append_right _ _ (by rw [ecs_len, hn]; omega), ecs_len, hn, Nat.add_sub_cancel_left, Nat.add_sub_cancel_left]
 rfl
set_option maxRecDepth 100000 in
set_option maxHeartbeats 3200000 in
theorem join_any (ls : List (List Ent)) (v : Value) (B F : Assn) (w : World) (hL : ReadsLL B v ls) (hs : Sat (B * F) w) (hn : ls.length ≤ 1048576) (hl : ls.flatten.length ≤ 1048576) (hm : ∀ x ∈ ls.flatten, mayEnt x = true) (hb : eBytes ls.flatten ≤ 1099511627776) :
 Calls Tryz.prog 80 #[v] w fun e w' => ∃ a c, e = .returned (.slice a (join ls.flatten).length c) ∧ Sat (rw TEn 4 (.slice a (join ls.flatten).length c) (ecs (join ls.flatten)) * (B * F)) w' := by
 obtain ⟨i0, E⟩ := elemEn
 obtain ⟨vs, hv, hvl, hve⟩ := hL
 obtain ⟨a0, c0, rfl, hc1, hc2⟩ := hv.v
 have HV : Aside (ReadsR 1 B (.slice a0 ls.length c0) ls.length vs) := hv
 have HVE : Aside (∀ (i : Nat) (x : Value) (l : List Ent), vs[i]? = some x → ls[i]? = some l → ReadsE B x l) := hve
 have HM : Aside (∀ x ∈ ls.flatten, mayEnt x = true) := hm
 have HBt : Aside (eBytes ls.flatten ≤ 1099511627776 ∧ ls.flatten.length ≤ 1048576 ∧ vs.length = ls.length) := ⟨hb, hl, hvl⟩
 obtain ⟨R, hR⟩ : ∃ R, join ls.flatten = R := ⟨_, rfl⟩
 rw [hR]
 have HR : Aside (join ls.flatten = R) := hR
 have q0 := hs.rw_nil (e := TEn) (s := 4)
 haveI := hs.i
 clear hv hve hm hb hl hvl hR
 go_enter Tryz.func80, Tryz.ntmps80
 go_wp2
 have HBL : Aside (∀ i : Nat, (ls.take i).flatten.length ≤ 1048576 ∧ eBytes (ls.take i).flatten ≤ 1099511627776 ∧ ∀ x ∈ (ls.take i).flatten, mayEnt x = true) := fun i => by
  have hsp : ls.flatten = (ls.take i).flatten ++ (ls.drop i).flatten := by rw [← List.flatten_append, List.take_append_drop]
  have h1 := HBt.out.1
  have h2 := HBt.out.2.1
  have h3 := HM.out
  rw [hsp] at h1 h2 h3
  rw [eBytes_append] at h1
  rw [List.length_append] at h2
  have h4 := (okE_len (o := (ls.drop i).flatten) (fun y hy => (OkE.of (h3 y (List.mem_append_right _ hy))).1)).1
  exact ⟨by omega, by omega, fun x hx => h3 x (List.mem_append_left _ hx)⟩
 obtain ⟨n, hnn⟩ : ∃ n, ls.length = n := ⟨_, rfl⟩
 have HN : Aside (ls.length = n) := hnn
 rw [hnn] at hn ⊢
 clear hnn
 go_loopg [3, 11] n (fun g t3 t11 wr => ∃ (i : Nat) (o : List Ent) (a : Option Addr) (c : Nat), t11 = .int .i64 i ∧ t3 = .slice a o.length c ∧ i ≤ n ∧ o.length ≤ 1048576 ∧ Aside (g = n - i ∧ o = join (ls.take i).flatten) ∧ Aside (o.length ≤ (ls.take i).flatten.length ∧ (∀ y ∈ o, OkE y) ∧ eBytes o = eBytes (ls.take i).flatten) ∧
  Sat (rw TEn 4 (.slice a o.length c) (ecs o) * (B * F)) wr)
 case atStart => exact ⟨0, [], none, 0, rfl, rfl, by omega, by simp, ⟨rfl, rfl⟩, ⟨by simp, by simp, rfl⟩, q0⟩
 case round =>
  obtain ⟨i, o, a, c, rfl, rfl, hi, hol, A, A2, hsr⟩ := hrel
  clear q0 hs this
  haveI := hsr.i
  by_cases hlt : i < n
  · have hlt' : (i : Int) < n := by omega
    obtain ⟨x, hx⟩ : ∃ x, vs[i]? = some x := ⟨_, List.getElem?_eq_getElem (by have := HBt.out.2.2; have := HN.out; omega)⟩
    obtain ⟨l, hl⟩ : ∃ l, ls[i]? = some l := ⟨_, List.getElem?_eq_getElem (by have := HN.out; omega)⟩
    have hv2 := HV.out
    rw [HN.out] at hv2
    obtain ⟨b0, k0, rfl, r0⟩ := ReadsR.at hv2 i x hx
    clear hv2
    have hle := HVE.out i x l hx hl
    obtain ⟨al, cl, rfl, hl1, hl2⟩ := hle.v
    have HL : Aside (ReadsE B (.slice al l.length cl) l) := hle
    have HFl : Aside ((ls.take (i + 1)).flatten = (ls.take i).flatten ++ l) := (by rw [take_snoc' hl]; simp : _ = _)
    have hbl := HBL.out (i + 1)
    rw [HFl.out] at hbl
    have HLB : Aside ((ls.take i).flatten.length + l.length ≤ 1048576 ∧ eBytes (ls.take i).flatten + eBytes l ≤ 1099511627776 ∧ ∀ x ∈ l, mayEnt x = true) := ⟨by have := hbl.1; rwa [List.length_append] at this, by have := hbl.2.1; rwa [eBytes_append] at this, fun x hx => hbl.2.2 x (List.mem_append_right _ hx)⟩
    obtain ⟨nl, hnl⟩ : ∃ nl, l.length = nl := ⟨_, rfl⟩
    have HNL : Aside (l.length = nl) := hnl
    rw [hnl] at HL hl1
    have hnl2 : nl ≤ 1048576 := by have := HLB.out.1; omega
    clear hle hbl hx hl
    rw [hnl] at r0
    clear hnl
    go_wp2_with fail
    go_loopg [3, 17] nl (fun g t3 t17 wr => ∃ (j : Nat) (o2 : List Ent) (a2 : Option Addr) (c2 : Nat), t17 = .int .i64 j ∧ t3 = .slice a2 o2.length c2 ∧ j ≤ nl ∧ o2.length ≤ 1048576 ∧ Aside (g = nl - j ∧ o2 = (l.take j).foldl joinTo o) ∧ Aside (o2.length ≤ o.length + j ∧ (∀ y ∈ o2, OkE y) ∧ eBytes o2 = eBytes o + eBytes (l.take j)) ∧
     Sat (rw TEn 4 (.slice a2 o2.length c2) (ecs o2) * (B * F)) wr)
    case atStart => exact ⟨0, o, a, c, rfl, rfl, by omega, hol, ⟨rfl, rfl⟩, ⟨by omega, A2.out.2.1, by simp [eBytes]⟩, hsr⟩
    case round =>
     obtain ⟨j, o2, a2, c2, rfl, rfl, hj, hol2, J, J2, hsr2⟩ := hrel
     clear hsr this
     haveI := hsr2.i
     by_cases hlj : j < nl
     · have hlj' : (j : Int) < nl := by omega
       obtain ⟨y, hy⟩ : ∃ y, l[j]? = some y := ⟨_, List.getElem?_eq_getElem (by have := HNL.out; omega)⟩
       have hle2 := HL.out
       rw [← HNL.out] at hle2
       obtain ⟨b, q, rfl, r1, r2, r3, r4⟩ := readsE_at hle2 hy
       clear hle2
       have HT : Aside ((l.take (j + 1)).foldl joinTo o = joinTo o2 y ∧ eBytes (l.take (j + 1)) = eBytes (l.take j) + y.len) := ⟨by rw [take_snoc' hy, List.foldl_append, ← J.out.2]; rfl, eBytes_snoc hy⟩
       obtain ⟨hok, hyl⟩ := OkE.of (HLB.out.2.2 y (List.mem_of_getElem? hy))
       have HJ : Aside ((joinTo o2 y).length ≤ o.length + (j + 1) ∧ (∀ z ∈ joinTo o2 y, OkE z) ∧ eBytes (joinTo o2 y) = eBytes o + eBytes (l.take (j + 1)) ∧ (joinTo o2 y).length ≤ 1048576) := by
        have h1 := joinTo_len o2 y
        have h2 := J2.out.1
        have h3 := A2.out.1
        have h4 := HLB.out.1
        have h5 := HNL.out
        refine ⟨by omega, okE_join J2.out.2.1 hok, ?_, by omega⟩
        rw [eBytes_joinTo, HT.out.2, J2.out.2.2]
        omega
       have hyo : OkE y := hok
       obtain ⟨y1, y2, y3, y4⟩ := y
       unfold OkE at hyo
       simp only at hyo hyl r1 r2 r3 r4
       clear hok hy
       have hbe : eBytes o2 ≤ 1099511627776 := by
        have h1 := J2.out.2.2
        have h2 := A2.out.2.2
        have h3 := HLB.out.2.1
        have h4 : eBytes l = eBytes (l.take j) + eBytes (l.drop j) := by rw [← eBytes_append, List.take_append_drop]
        have h5 := (okE_len (o := l.drop j) (fun y hy => (OkE.of (HLB.out.2.2 y (List.mem_of_mem_drop hy))).1)).1
        omega
       have hoa := okE_len J2.out.2.1
       rcases List.eq_nil_or_concat o2 with rfl | ⟨p, a, hcat⟩
       · clear hbe hoa
         simp only [List.length_nil] at hsr2 ⊢
         haveI := hsr2.i
         go_wp2
         go_quiet (fail)
         go_wp2_with (at_builtin; refine wpl_append_same E rfl (.tmp 57) (.tmp 59) rfl rfl rfl (takeI (rw TEn 4 (.slice a2 0 c2) (ecs []))) (Src.new (b := wr.heap.size + 1) (e := TEn) (s := 4) (vs := [.int .i64 y1, .int .i64 y2, .int .i64 y3, .int .i64 y4]) (takeI _) rfl (by intro u hu; simp at hu; rcases hu with rfl | rfl | rfl | rfl <;> rfl)) (by unfold maxLen; omega) (by omega) ?_; intro a9 c9 w9 q9 z9; clear z9; haveI := q9.i)
         go_roundg (nl - (j + 1))
         case measure => have := J.out.1; omega
         case rel =>
          refine ⟨j + 1, [⟨y1, y2, y3, y4⟩], a9, c9, by go_num, rfl, by omega, by simp, ⟨rfl, ?_⟩, ?_, ?_⟩
          · rw [HT.out.1]; rfl
          · have := HJ.out; exact ⟨this.1, this.2.1, this.2.2.1⟩
          · show Sat (rw TEn 4 (.slice a9 (0 + 1) c9) (ecs [] ++ [.int .i64 y1, .int .i64 y2, .int .i64 y3, .int .i64 y4]) * (B * F)) _
            exact keep3 _ _ _
       · clear this
         rw [List.concat_eq_append] at hcat
         subst hcat
         obtain ⟨np, hnp⟩ : ∃ np, p.length = np := ⟨_, rfl⟩
         have HP : Aside (p.length = np) := hnp
         have hlen : (p ++ [a]).length = np + 1 := by rw [List.length_append, hnp]; rfl
         have hav := hoa.2 a (by simp)
         have hao := J2.out.2.1 a (by simp)
         rw [hlen] at hol2 hsr2 ⊢
         obtain ⟨g, rfl⟩ := row_some hsr2 (by omega)
         have t0 := ecs_at p a np hnp 0 _ rfl
         have t1 := ecs_at p a np hnp 1 _ rfl
         have t2 := ecs_at p a np hnp 2 _ rfl
         have t3 := ecs_at p a np hnp 3 _ rfl
         obtain ⟨e1, e2, e3, e4⟩ := a
         unfold OkE at hao
         simp only at hao hav t0 t1 t2 t3
         have hae : e3 ≤ 1099511627776 := by omega
         obtain ⟨xs, hxs⟩ : ∃ xs, ecs (p ++ [⟨e1, e2, e3, e4⟩]) = xs := ⟨_, rfl⟩
         have HX : Aside (ecs (p ++ [⟨e1, e2, e3, e4⟩]) = xs) := hxs
         rw [hxs] at t0 t1 t2 t3 hsr2
         clear hxs
         haveI : At xs (np * 4) (.int .i64 e1) := ⟨t0⟩
         haveI : At xs (np * 4 + 1) (.int .i64 e2) := ⟨t1⟩
         haveI : At xs (np * 4 + 2) (.int .i64 e3) := ⟨t2⟩
         haveI : At xs (np * 4 + 3) (.int .i64 e4) := ⟨t3⟩
         haveI : At (xs.set (np * 4 + 2) (.int .i64 (e3 + y3))) (np * 4 + 3) (.int .i64 e4) := ⟨by rw [List.getElem?_set_ne (by omega)]; exact t3⟩
         haveI := hsr2.i
         have hix : (np : Int) < (np : Int) + 1 := by omega
         have hd : decide ((np : Int) < 0) = false := decide_eq_false (by omega)
         have hnn : (np : Int) ≤ 1048576 := by omega
         have hw1 : IntKind.i64.wrap (e2 + e3) = e2 + e3 := IntWalk.i64_in _ (by omega)
         have hw2 : IntKind.i64.wrap (e3 + y3) = e3 + y3 := IntWalk.i64_in _ (by omega)
         have hw3 : IntKind.i64.wrap (e4 + y4) = e4 + y4 := IntWalk.i64_in _ (by omega)
         clear hbe hoa hav hnp hlen t0 t1 t2 t3
         by_cases h1 : e1 = y1
         · by_cases h2 : e2 + e3 = y2
           · have hm : meets ⟨e1, e2, e3, e4⟩ ⟨y1, y2, y3, y4⟩ = true := by unfold meets; simp [h1, h2]
             subst h1
             have b1 : (e1 != e1) = false := by simp
             have b2 : (e2 + e3 != y2) = false := by simp [h2]
             go_wp2
             go_quiet (fail)
             by_cases h4 : e4 < 0
             · have HE : Aside (joinTo (p ++ [⟨e1, e2, e3, e4⟩]) ⟨e1, y2, y3, y4⟩ = p ++ [⟨e1, e2, e3 + y3, -1⟩]) := by rw [joinTo_go hm]; unfold glue; simp [h4]; exact (trivial : True)
               have d1 : decide (e4 < 0) = true := decide_eq_true h4
               clear hm
               go_wp2_with fail
               go_region
               go_wp2_with fail
               go_roundg (nl - (j + 1))
               case measure => have := J.out.1; omega
               case rel =>
                refine ⟨j + 1, p ++ [⟨e1, e2, e3 + y3, -1⟩], some ⟨g, 0, none⟩, c2, by go_num, ?_, by omega, ?_, ⟨rfl, ?_⟩, ?_, ?_⟩
                · rw [List.length_append, HP.out]; rfl
                · have := HJ.out.2.2.2; rw [HE.out] at this; exact this
                · rw [HT.out.1, HE.out]
                · have := HJ.out; rw [HE.out] at this; exact ⟨this.1, this.2.1, this.2.2.1⟩
                · rw [show ecs (p ++ [⟨e1, e2, e3 + y3, -1⟩]) = _ from (ecs_glue p (Ent.mk e1 e2 e3 e4) np HP.out (e3 + y3) (-1)).symm, HX.out, List.length_append, HP.out]
                  show Sat (rw TEn 4 (.slice (some ⟨g, 0, none⟩) (np + 1) c2) ((xs.set (np * 4 + 2) (Value.int .i64 (e3 + y3))).set (np * 4 + 3) (Value.int .i64 (-1))) * (B * F)) _
                  exact keep3 _ _ _
             · have d1 : decide (e4 < 0) = false := decide_eq_false h4
               by_cases h5 : y4 < 0
               · have HE : Aside (joinTo (p ++ [⟨e1, e2, e3, e4⟩]) ⟨e1, y2, y3, y4⟩ = p ++ [⟨e1, e2, e3 + y3, -1⟩]) := by rw [joinTo_go hm]; unfold glue; simp [h4, h5]; exact (trivial : True)
                 have d2 : decide (y4 < 0) = true := decide_eq_true h5
                 clear hm
                 go_wp2_with fail
                 go_region
                 go_wp2_with fail
                 go_roundg (nl - (j + 1))
                 case measure => have := J.out.1; omega
                 case rel =>
                  refine ⟨j + 1, p ++ [⟨e1, e2, e3 + y3, -1⟩], some ⟨g, 0, none⟩, c2, by go_num, ?_, by omega, ?_, ⟨rfl, ?_⟩, ?_, ?_⟩
                  · rw [List.length_append, HP.out]; rfl
                  · have := HJ.out.2.2.2; rw [HE.out] at this; exact this
                  · rw [HT.out.1, HE.out]
                  · have := HJ.out; rw [HE.out] at this; exact ⟨this.1, this.2.1, this.2.2.1⟩
                  · rw [show ecs (p ++ [⟨e1, e2, e3 + y3, -1⟩]) = _ from (ecs_glue p (Ent.mk e1 e2 e3 e4) np HP.out (e3 + y3) (-1)).symm, HX.out, List.length_append, HP.out]
                    show Sat (rw TEn 4 (.slice (some ⟨g, 0, none⟩) (np + 1) c2) ((xs.set (np * 4 + 2) (Value.int .i64 (e3 + y3))).set (np * 4 + 3) (Value.int .i64 (-1))) * (B * F)) _
                    exact keep3 _ _ _
               · have HE : Aside (joinTo (p ++ [⟨e1, e2, e3, e4⟩]) ⟨e1, y2, y3, y4⟩ = p ++ [⟨e1, e2, e3 + y3, e4 + y4⟩]) := by rw [joinTo_go hm]; unfold glue; simp [h4, h5]; exact (trivial : True)
                 have d2 : decide (y4 < 0) = false := decide_eq_false h5
                 clear hm
                 go_wp2_with fail
                 go_region
                 go_wp2_with fail
                 go_region
                 go_wp2_with fail
                 go_roundg (nl - (j + 1))
                 case measure => have := J.out.1; omega
                 case rel =>
                  refine ⟨j + 1, p ++ [⟨e1, e2, e3 + y3, (e4 + y4)⟩], some ⟨g, 0, none⟩, c2, by go_num, ?_, by omega, ?_, ⟨rfl, ?_⟩, ?_, ?_⟩
                  · rw [List.length_append, HP.out]; rfl
                  · have := HJ.out.2.2.2; rw [HE.out] at this; exact this
                  · rw [HT.out.1, HE.out]
                  · have := HJ.out; rw [HE.out] at this; exact ⟨this.1, this.2.1, this.2.2.1⟩
                  · rw [show ecs (p ++ [⟨e1, e2, e3 + y3, (e4 + y4)⟩]) = _ from (ecs_glue p (Ent.mk e1 e2 e3 e4) np HP.out (e3 + y3) (e4 + y4)).symm, HX.out, List.length_append, HP.out]
                    show Sat (rw TEn 4 (.slice (some ⟨g, 0, none⟩) (np + 1) c2) ((xs.set (np * 4 + 2) (Value.int .i64 (e3 + y3))).set (np * 4 + 3) (Value.int .i64 (e4 + y4))) * (B * F)) _
                    exact Sat.drewN 1 (keep3 _ _ _)
           · have HE : Aside (joinTo (p ++ [⟨e1, e2, e3, e4⟩]) ⟨y1, y2, y3, y4⟩ = (p ++ [⟨e1, e2, e3, e4⟩]) ++ [⟨y1, y2, y3, y4⟩]) := joinTo_stop (by unfold meets; simp [h2])
             subst h1
             have b1 : (e1 != e1) = false := by simp
             have b2 : (e2 + e3 != y2) = true := by simp [h2]
             go_wp2
             go_quiet (fail)
             go_wp2_with (at_builtin; refine wpl_append_same E rfl (.tmp 57) (.tmp 59) rfl rfl rfl (takeI (rw TEn 4 (.slice (some ⟨g, 0, none⟩) (np + 1) c2) xs)) (Src.new (b := wr.heap.size + 1) (e := TEn) (s := 4) (vs := [.int .i64 e1, .int .i64 y2, .int .i64 y3, .int .i64 y4]) (takeI _) rfl (by intro u hu; simp at hu; rcases hu with rfl | rfl | rfl | rfl <;> rfl)) (by unfold maxLen; omega) (by omega) ?_; intro a9 c9 w9 q9 z9; clear z9; haveI := q9.i)
             go_roundg (nl - (j + 1))
             case measure => have := J.out.1; omega
             case rel =>
              refine ⟨j + 1, (p ++ [⟨e1, e2, e3, e4⟩]) ++ [⟨e1, y2, y3, y4⟩], a9, c9, by go_num, ?_, by omega, ?_, ⟨rfl, ?_⟩, ?_, ?_⟩
              · rw [List.length_append, List.length_append, HP.out]; rfl
              · have := HJ.out.2.2.2; rw [HE.out] at this; exact this
              · rw [HT.out.1, HE.out]
              · have := HJ.out; rw [HE.out] at this; exact ⟨this.1, this.2.1, this.2.2.1⟩
              · rw [ecs_last (p ++ [Ent.mk e1 e2 e3 e4]), HX.out, List.length_append, List.length_append, HP.out]
                show Sat (rw TEn 4 (.slice a9 (np + 1 + 1) c9) (xs ++ [.int .i64 e1, .int .i64 y2, .int .i64 y3, .int .i64 y4]) * (B * F)) _
                exact keep3 _ _ _
         · have HE : Aside (joinTo (p ++ [⟨e1, e2, e3, e4⟩]) ⟨y1, y2, y3, y4⟩ = (p ++ [⟨e1, e2, e3, e4⟩]) ++ [⟨y1, y2, y3, y4⟩]) := joinTo_stop (by unfold meets; simp [h1])
           have b1 : (e1 != y1) = true := by simp [h1]
           go_wp2
           go_quiet (fail)
           go_wp2_with (at_builtin; refine wpl_append_same E rfl (.tmp 57) (.tmp 59) rfl rfl rfl (takeI (rw TEn 4 (.slice (some ⟨g, 0, none⟩) (np + 1) c2) xs)) (Src.new (b := wr.heap.size + 1) (e := TEn) (s := 4) (vs := [.int .i64 y1, .int .i64 y2, .int .i64 y3, .int .i64 y4]) (takeI _) rfl (by intro u hu; simp at hu; rcases hu with rfl | rfl | rfl | rfl <;> rfl)) (by unfold maxLen; omega) (by omega) ?_; intro a9 c9 w9 q9 z9; clear z9; haveI := q9.i)
           go_roundg (nl - (j + 1))
           case measure => have := J.out.1; omega
           case rel =>
            refine ⟨j + 1, (p ++ [⟨e1, e2, e3, e4⟩]) ++ [⟨y1, y2, y3, y4⟩], a9, c9, by go_num, ?_, by omega, ?_, ⟨rfl, ?_⟩, ?_, ?_⟩
            · rw [List.length_append, List.length_append, HP.out]; rfl
            · have := HJ.out.2.2.2; rw [HE.out] at this; exact this
            · rw [HT.out.1, HE.out]
            · have := HJ.out; rw [HE.out] at this; exact ⟨this.1, this.2.1, this.2.2.1⟩
            · rw [ecs_last (p ++ [Ent.mk e1 e2 e3 e4]), HX.out, List.length_append, List.length_append, HP.out]
              show Sat (rw TEn 4 (.slice a9 (np + 1 + 1) c9) (xs ++ [.int .i64 y1, .int .i64 y2, .int .i64 y3, .int .i64 y4]) * (B * F)) _
              exact keep3 _ _ _
     · have hlj' : ¬ (j : Int) < nl := by omega
       obtain rfl : j = nl := by omega
       have hJ := J.out.2
       have hJ2 := J2.out
       rw [List.take_of_length_le (by rw [HNL.out]; exact Nat.le_refl _)] at hJ hJ2
       have HF : Aside (o2 = join (ls.take (i + 1)).flatten ∧ o2.length ≤ (ls.take (i + 1)).flatten.length ∧ (∀ y ∈ o2, OkE y) ∧ eBytes o2 = eBytes (ls.take (i + 1)).flatten) := by
        refine ⟨?_, ?_, hJ2.2.1, ?_⟩
        · rw [hJ, A.out.2, HFl.out]
          unfold join
          rw [List.foldl_append]
        · rw [HFl.out, List.length_append]
          have := A2.out.1
          have := HNL.out
          omega
        · rw [HFl.out, eBytes_append, hJ2.2.2, A2.out.2.2]
       clear hJ hJ2
       go_wp2
       go_roundg (n - (i + 1))
       case measure => have := A.out.1; omega
       case rel => exact ⟨i + 1, o2, a2, c2, by go_num, rfl, by omega, hol2, ⟨rfl, HF.out.1⟩, HF.out.2, hsr2⟩
  · have hlt' : ¬ (i : Int) < n := by omega
    obtain rfl : i = n := by omega
    have hRR : o = R := by rw [A.out.2, List.take_of_length_le (by rw [HN.out]; exact Nat.le_refl _)]; exact HR.out
    subst hRR
    go_wp2
    go_ret
    exact ⟨a, c, rfl, hsr⟩
end Go.Proofs.YtfhbmblbidcmmaaGreat
namespace Go.Proofs.YtfhbmblbidcmmaaGreat
set_option linter.unusedSimpArgs false
set_option linter.unusedVariables false
open Go.RowKit Go.Sl Go.Dk Go.Tr
open Go.Lru (ikey)
attribute [local go_sem ↓] Go.wp_at_zero Go.wp_at_succ
attribute [local go_sem] Go.Sl.cell_sat Go.Sl.frozen_sat
abbrev TSn : TypeId := 159
abbrev TKn : TypeId := 248
abbrev TLf : TypeId := 249
abbrev TTp : TypeId := 41
def zeroSn : Value := snV sn0
instance mapKn : MapT Tryz.prog TKn Int ikey (.agg #[.int .i64 0, .int .i64 0, .int .i64 0, .int .i64 0, .int .i64 0, .int .i64 0, .int .i64 0, .int .i64 0, .int .i64 0, .int .i64 0]) := ⟨TIn, TSn, keyOk3, Tryz.underlying248, fun w => by kernel_rfl⟩
theorem look_Kn (w : World) (M : Nat) (k : Int) {A : Assn} {ms : List (Int × Value)} [h : SatI A w] [h2 : HasM A M ikey ms] : (Instr.lookup TKn (.map (some M)) (.int .i64 k) true).run Tryz.prog w = .ok (.tuple #[(mget k ms).getD zeroSn, .bool (mget k ms).isSome]) w := lookup2_run mapKn w M k
theorem put_Kn (w : World) (M : Nat) (k : Int) (v : Value) {A : Assn} {ms : List (Int × Value)} [h : SatI A w] [h2 : HasM A M ikey ms] : (Instr.mapUpdate TKn (.map (some M)) (.int .i64 k) v).run Tryz.prog w = .ok () (putW Tryz.prog TKn M (ikey k) v w) := put_run mapKn w M k v
instance {w : World} {M : Nat} {k : Int} {v : Value} {A A' : Assn} {ms : List (Int × Value)} [h : SatI A w] [h2 : HasM A M ikey ms] [h3 : UpdM A M ikey (mput k v ms) A'] : SatI A' (putW Tryz.prog TKn M (ikey k) v w) := put_sat mapKn
def lookA (bK bT bL M : Nat) (h : Th) (K : List (Int × Sn)) : Assn := Sl.block bK TKn [.map (some M)] * (Sl.block bT TTp [.pointer (some ⟨h.t, 0, none⟩)] * (Sl.block bL TLf [.func (Fn.func 128) #[] #[.pointer (some ⟨bK, 0, none⟩), .pointer (some ⟨bT, 0, none⟩), .pointer (some ⟨bL, 0, none⟩)]] * mp ikey M (kn K)))
theorem look_keep {A R R1 R2 R3 R4 R5 : Assn} {w : World} [SatI A w] (h : Th) (s : TS) (bK bT bL M : Nat) (K : List (Int × Sn)) (F : Assn) [Take A (treeP h s) R] [Take R (Sl.block bK TKn [.map (some M)]) R1] [Take R1 (Sl.block bT TTp [.pointer (some ⟨h.t, 0, none⟩)]) R2] [Take R2 (Sl.block bL TLf [.func (Fn.func 128) #[] #[.pointer (some ⟨bK, 0, none⟩), .pointer (some ⟨bT, 0, none⟩), .pointer (some ⟨bL, 0, none⟩)]]) R3] [Take R3 (mp ikey M (kn K)) R4] [Take R4 F R5] : Sat (treeP h s * (lookA bK bT bL M h K * F)) w :=
 (keep6 (treeP h s) (Sl.block bK TKn [.map (some M)]) (Sl.block bT TTp [.pointer (some ⟨h.t, 0, none⟩)]) (Sl.block bL TLf [.func (Fn.func 128) #[] #[.pointer (some ⟨bK, 0, none⟩), .pointer (some ⟨bT, 0, none⟩), .pointer (some ⟨bL, 0, none⟩)]]) (mp ikey M (kn K)) F).eq (by unfold lookA; ac_rfl)
section
variable [TopN]
def RdEnds (h : Th) (V : Int → Option Nd) (m : Nat) (s : TS) (no : Int) (F : Assn) (e : Ending) (w' : World) : Prop := ∃ s', Rdy V m s' ∧ s'.sp = s.sp ∧ s'.ck.d = s.ck.d ∧
 ((∃ n v B, V no = some n ∧ e = .returned v ∧ ReadsN B v n ∧ Sat (treeP h s' * (B * F)) w') ∨ (V no = none ∧ e = .panicked (faultC 13) ∧ Sat (treeP h s' * F) w'))
theorem rd_call (h : Th) (V : Int → Option Nd) (m : Nat) (s : TS) (no : Int) (F : Assn) (w : World) (hR : Rdy V (m + 1) s) (hp : no ≠ 0) (hs : Sat (treeP h s * F) w) :
 Calls Tryz.prog 129 #[.pointer (some ⟨h.t, 0, none⟩), .int .i64 no] w (RdEnds h V m s no F) := by
 obtain ⟨s', h1, h2, h3, h4⟩ := hR.read hp
 have hc := tread_any h s no F w hs (by rw [h4]; cases V no <;> simp [rdOut])
 rw [h4] at hc
 refine hc.mono fun e w' ht => ?_
 cases hv : V no with
 | none =>
   rw [hv] at ht
   exact ⟨s', h1, h2, h3, .inr ⟨hv, ht.1, ht.2⟩⟩
 | some n =>
   rw [hv] at ht
   obtain ⟨v, B, e1, ⟨e2, _⟩, e3⟩ := ht
   exact ⟨s', h1, h2, h3, .inl ⟨n, v, B, hv, e1, e2, e3⟩⟩
def LookOut (V : Int → Option Nd) (N : Nat) (h : Th) (bK bT bL M f m : Nat) (s : TS) (K : List (Int × Sn)) (no : Int) (top : Bool) (F : Assn) (e : Ending) (w' : World) : Prop := ∃ s' K', Sat (treeP h s' * (lookA bK bT bL M h K' * F)) w' ∧ s'.sp = s.sp ∧ s'.ck.d = s.ck.d ∧
 ((∃ y m', e = .returned (snV y) ∧ Chk V no top y ∧ (K = [] → y.h < f) ∧ KnOk V K' ∧ (∀ q ∈ K', q ∈ K ∨ q.2.h ≤ y.h) ∧ Rdy V m' s' ∧ m + 13 * fr N K' ≤ m' + 13 * fr N K + (if top then 13 else 0)) ∨
  (e = .panicked (faultC 13) ∧ chk V f no top = none ∧ Rdy V 0 s'))
def LookC (f : Nat) : Prop := ∀ (V : Int → Option Nd) (N : Nat) (h : Th) (s : TS) (m : Nat) (K : List (Int × Sn)) (no : Int) (top : Bool) (bK bT bL M : Nat) (F : Assn) (w : World), f ≤ 13 → no ≠ 0 → KnOk V K → (∀ p n, V p = some n → may n = true ∧ p < N) → Rdy V m s → 13 * fr N K + 13 * (f + 1) ≤ m →
 Sat (treeP h s * (lookA bK bT bL M h K * F)) w → Calls Tryz.prog 128 #[.int .i64 no, .bool top, .int .i64 (13 - (f : Int)), .pointer (some ⟨bK, 0, none⟩), .pointer (some ⟨bT, 0, none⟩), .pointer (some ⟨bL, 0, none⟩)] w (LookOut V N h bK bT bL M f m s K no top F)
theorem Rdy.less {V : Int → Option Nd} {m m' : Nat} {s : TS} (h : Rdy V m s) (k : m' ≤ m) : Rdy V m' s := ⟨h.ts, h.good, h.up, h.look, Nat.le_trans k h.left⟩
set_option maxRecDepth 100000 in
set_option maxHeartbeats 3200000 in
theorem look_hit (f : Nat) (V : Int → Option Nd) (N : Nat) (h : Th) (s : TS) (m : Nat) (K : List (Int × Sn)) (no : Int) (bK bT bL M : Nat) (F : Assn) (w : World) (hK : KnOk V K) (hR : Rdy V m s) (y : Sn) (hy : kget no K = some y)
 (hs : Sat (treeP h s * (lookA bK bT bL M h K * F)) w) : Calls Tryz.prog 128 #[.int .i64 no, .bool false, .int .i64 (13 - (f : Int)), .pointer (some ⟨bK, 0, none⟩), .pointer (some ⟨bT, 0, none⟩), .pointer (some ⟨bL, 0, none⟩)] w (LookOut V N h bK bT bL M f m s K no false F) := by
 have HC : Aside (Chk V no false y) := hK.get hy
 have HKE0 : K ≠ [] := fun e => by
  rw [e] at hy
  cases hy
 have HKE : Aside (K ≠ []) := HKE0
 have HK : Aside (KnOk V K) := hK
 have HR : Aside (Rdy V m s) := hR
 obtain ⟨yh, yc, ⟨a1, a2, a3, a4⟩, ⟨b1, b2, b3, b4⟩⟩ := y
 unfold lookA at hs
 haveI := hs.i
 have hlk : (Instr.lookup TKn (.map (some M)) (.int .i64 no) true).run Tryz.prog (w.alloc (.cells #[.int .i64 0, .int .i64 0, .int .i64 0, .int .i64 0, .int .i64 0, .int .i64 0, .int .i64 0, .int .i64 0, .int .i64 0, .int .i64 0] TSn)) = .ok (.tuple #[.agg #[.int .i64 yh, .int .i64 yc, .int .i64 a1, .int .i64 a2, .int .i64 a3, .int .i64 a4, .int .i64 b1, .int .i64 b2, .int .i64 b3, .int .i64 b4], .bool true]) (w.alloc (.cells #[.int .i64 0, .int .i64 0, .int .i64 0, .int .i64 0, .int .i64 0, .int .i64 0, .int .i64 0, .int .i64 0, .int .i64 0, .int .i64 0] TSn)) := by
  rw [look_Kn, mget_kn, hy]
  rfl
 clear hK hR hy hs HKE0
 go_enter Tryz.func128, Tryz.ntmps128
 go_wp2
 go_returns
 refine ⟨s, K, ?_, rfl, rfl, .inl ⟨_, m, rfl, HC.out, fun e => absurd e HKE.out, HK.out, fun q hq => .inl hq, HR.out, by simp⟩⟩
 exact look_keep h s bK bT bL M K F
end
end Go.Proofs.YtfhbmblbidcmmaaGreat
