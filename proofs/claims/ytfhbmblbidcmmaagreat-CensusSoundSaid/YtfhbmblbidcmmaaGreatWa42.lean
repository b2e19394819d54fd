/-
  Versions are found sound just if they are in the words of the document. No condition. (part 42)
-/
import Derived.Test.YtfhbmblbidcmmaaGreatWa40
import Derived.Test.YtfhbmblbidcmmaaGreatWa27
import Derived.Test.YtfhbmblbidcmmaaGreatWa41
import Derived.Test.YtfhbmblbidcmmaaGreatWa25
import Derived.Test.YtfhbmblbidcmmaaGreatWa30
import Derived.Test.YtfhbmblbidcmmaaGreatWa16
import Derived.Test.YtfhbmblbidcmmaaGreatWa20
set_option linter.unusedSimpArgs false
set_option linter.unusedVariables false
namespace Go.Proofs.YtfhbmblbidcmmaaGreat
set_option linter.unusedSimpArgs false
set_option linter.unusedVariables false
open Go.Sl Go.Dk Go.Tr
def Clean (s : Ck) : Prop := ∀ n ∈ s.its, n.mkd = false
theorem Clean.dirty {s : Ck} (h : Clean s) (no : Int) : s.dirty no = false := by
 rw [Bool.eq_false_iff]
 intro hd
 obtain ⟨n, hn, hm, _⟩ := dirty_iff.1 hd
 rw [h n hn] at hm
 cases hm
theorem Clean.write {s : Ck} (h : Clean s) (no : Int) : s.write no = (0, s) := by
 unfold Ck.write
 rw [if_pos (h.dirty no)]
theorem Clean.release {s : Ck} (h : Clean s) (no : Int) : (s.release no).2.d = s.d ∧ (s.release no).2.nm = s.nm ∧ Clean (s.release no).2 := by
 unfold Ck.release
 rw [h.write no, if_pos (show ((0 : Int), s).1 = 0 from rfl)]
 refine ⟨rfl, rfl, fun n hn => ?_⟩
 have hn : n ∈ (if dropB s.its no = true then outI s.its no else s.its) := hn
 split at hn
 · exact h n (List.mem_filter.1 hn).1
 · exact h n hn
theorem Clean.room {s : Ck} (h : Clean s) : s.room.2.d = s.d ∧ s.room.2.nm = s.nm ∧ Clean s.room.2 := by
 unfold Ck.room
 split
 · exact ⟨rfl, rfl, h⟩
 · split
   · exact ⟨rfl, rfl, h⟩
   · exact h.release _
theorem Clean.take {s : Ck} (h : Clean s) (no : Int) (b : List UInt8) : (s.take no b).2.d = s.d ∧ (s.take no b).2.nm = s.nm ∧ Clean (s.take no b).2 := by
 obtain ⟨h1, h2, h3⟩ := h.room
 unfold Ck.take
 split
 · refine ⟨h1, h2, fun n hn => ?_⟩
   rcases List.mem_append.1 hn with hn | hn
   · exact h3 n hn
   · simp at hn; subst hn; rfl
 · exact ⟨h1, h2, h3⟩
theorem Clean.get {s : Ck} (h : Clean s) (no : Int) : (s.get no).2.2.d = s.d ∧ (s.get no).2.2.nm = s.nm ∧ Clean (s.get no).2.2 := by
 unfold Ck.get
 split
 · exact ⟨rfl, rfl, h⟩
 · split
   · exact ⟨rfl, rfl, fun n hn => h n ((useI_perm s.its no).mem_iff.1 hn)⟩
   · obtain ⟨h1, h2, h3⟩ := h.take no (s.d.read s.nm (no * 256) 256).2
     simp only
     split
     · split
       · exact ⟨h1, h2, h3⟩
       · exact ⟨h1, h2, h3⟩
     · exact ⟨rfl, rfl, h⟩
def fileOf (s : TS) : List UInt8 := fnow s.ck.d s.ck.nm
theorem Good.pf {T : Nat} {s : Ck} (g : Good T s) : Pf.Good T s := ⟨⟨g.fine.nmd, g.fine.nf⟩, g.pins, g.clean, g.top⟩
theorem clean_has {T m : Nat} {s : Ck} (ok : CkOk m s) (g : Pf.Good T s) (h : Clean s) {k : Int} {b : List UInt8} (hb : Has s k b) : Filed (fnow s.d s.nm) k b := by
 rcases hb with hb | hb
 · have hk : hasI s.its k = true := by rw [ok.same k, hb]; rfl
   obtain ⟨n, hn, e⟩ := List.mem_map.1 (hasI_iff.1 hk)
   subst e
   exact g.clean n hn (h n hn) b hb
 · exact hb.2
theorem filed_has {T m : Nat} {s : Ck} (ok : CkOk m s) (g : Pf.Good T s) (h : Clean s) {k : Int} {b : List UInt8} (hb : Filed (fnow s.d s.nm) k b) : Has s k b := by
 cases hp : pget k s.pgs with
 | none => exact .inr ⟨hp, hb⟩
 | some c =>
   have h1 := clean_has ok g h (.inl hp)
   have : c = b := by rw [← h1.2.2, hb.2.2]
   exact .inl (by rw [hp, this])
theorem get_code {T m : Nat} {s : Ck} (ok : CkOk m s) (g : Pf.Good T s) (up : s.d.down = false) (h : Clean s ∨ (s.its.length : Int) < s.cap) (no : Int) : (s.get no).1 = 0 ∨ (s.get no).1 = 1 ∨ (s.get no).1 = 6 := by
 unfold Ck.get
 by_cases h1 : no < 0 ∨ 1048576 ≤ no
 · rw [if_pos h1]; exact .inr (.inl rfl)
 rw [if_neg h1]
 cases hh : hasI s.its no with
 | true => rw [if_pos rfl]; exact .inl rfl
 | false =>
   rw [if_neg (by simp)]
   have hrm : s.room.1 = 0 := by
    unfold Ck.room
    by_cases hz : (s.pgs.length : Int) < s.cap
    · rw [if_pos hz]
    · rw [if_neg hz]
      rcases h with h | h
      · cases ho : oldI s.its with
        | none =>
          exfalso
          have h1 := ok.cap
          have h2 := ok.len
          have h3 : 0 < s.its.length := by omega
          obtain ⟨n, hn⟩ := List.exists_mem_of_length_pos h3
          have := List.find?_eq_none.1 ho n hn
          simp [g.pins n hn] at this
        | some n =>
          simp only
          unfold Ck.release
          rw [h.write, if_pos rfl]
      · have := ok.len
        omega
   rcases Pf.dk_read g.fine (no := no) (by omega) with ⟨_, hr⟩ | ⟨_, hr⟩ | ⟨hd, _⟩
   · simp only [hr]
     rw [if_pos trivial]
     unfold Ck.take
     rw [if_pos hrm]
     exact .inl rfl
   · simp only
     rw [if_neg (by rcases hr with h | h <;> rw [h] <;> decide)]
     refine .inr (.inr ?_)
     rcases hr with h | h
     · rw [if_pos h]
     · rw [if_neg (by rw [h]; decide), h]
   · rw [up] at hd; cases hd
theorem get_none {T m : Nat} {s : Ck} (ok : CkOk m s) (g : Pf.Good T s) (up : s.d.down = false) (h : Clean s) {no : Int} (h0 : 0 ≤ no) (h1 : no < 1048576) (hl : (fnow s.d s.nm).length < 256 * no.toNat + 256) : (s.get no).1 = 6 := by
 have hh : hasI s.its no = false := by
  cases hh : hasI s.its no with
  | false => rfl
  | true =>
    obtain ⟨b, hb, _⟩ := ok.key hh
    have := (clean_has ok g h (.inl hb)).2.1
    omega
 unfold Ck.get
 rw [if_neg (by omega), hh]
 simp only [Bool.false_eq_true, if_false]
 rcases Pf.dk_read g.fine h0 with ⟨hl2, _⟩ | ⟨_, hr | hr⟩ | ⟨hd, _⟩
 · omega
 · rw [hr]; rfl
 · rw [hr]; rfl
 · rw [up] at hd; cases hd
def rdOut (o : Option Nd) (s : TS) : Res TS Nd := match o with
 | some n => .ok n s
 | none => .fault 13 s
structure Snug (V : Int → Option Nd) (s : Ck) : Prop where
 none : s.d.get s.nm = none
 small : (s.its.length : Int) < s.cap
 view : ∀ p, V p = if p < 1 then Option.none else match pget p s.pgs with | some b => openNd p b | Option.none => Option.none
theorem Snug.get {V : Int → Option Nd} {m : Nat} {s : Ck} (h : Snug V s) (ok : CkOk m s) (hd : s.d.down = false) (no : Int) : (s.get no).2.2.d = s.d ∧ Snug V (s.get no).2.2 ∧ (pget no s.pgs = Option.none → (s.get no).1 = 1 ∨ (s.get no).1 = 6) := by
 unfold Ck.get
 split
 · exact ⟨rfl, h, fun _ => .inl rfl⟩
 · split
   · next hh =>
     refine ⟨rfl, ⟨h.none, by rw [(useI_perm s.its no).length_eq]; exact h.small, h.view⟩, fun e => ?_⟩
     rw [ok.same, e] at hh
     cases hh
   · have h6 := may_six ok.nm hd h.none
     have hr : s.d.read s.nm (no * 256) 256 = (6, []) := by unfold Dk.read; rw [if_pos (by rw [h6]; decide), h6]
     simp only [hr]
     exact ⟨rfl, h, fun _ => .inr rfl⟩
variable [TopN]
structure Rdy (V : Int → Option Nd) (m : Nat) (s : TS) : Prop where
 ts : TsI s
 good : Pf.Good TOP s.ck
 up : s.ck.d.down = false
 look : (Clean s.ck ∧ V = fileNode (fileOf s)) ∨ Snug V s.ck
 left : m ≤ leftOps s
theorem Rdy.out {V : Int → Option Nd} {m : Nat} {s : TS} (h : Rdy V m s) {p : Int} (hp : p < 1) : V p = none := by
 rcases h.look with ⟨_, h1⟩ | h1
 · rw [h1]; unfold fileNode; rw [if_pos (.inl hp)]
 · rw [h1.view, if_pos hp]
theorem Rdy.read {V : Int → Option Nd} {m : Nat} {s : TS} (h : Rdy V (m + 1) s) {p : Int} (hp : p ≠ 0) : ∃ s', Rdy V m s' ∧ s'.sp = s.sp ∧ s'.ck.d = s.ck.d ∧ tRead p s = rdOut (V p) s' := by
 have ho : s.ops < opsMax := by
  have := h.left
  unfold leftOps at this
  omega
 have hts := h.ts.get p ho
 have hcode := get_code h.ts.ok h.good h.up (h.look.elim (fun x => .inl x.1) (fun x => .inr x.small)) p
 have hleft : m ≤ leftOps ⟨(s.ck.get p).2.2, s.sp, s.ops + 2⟩ := by
  have := h.left
  unfold leftOps at this ⊢
  simp only
  omega
 rcases h.look with ⟨hcl, hview⟩ | hsn
 · obtain ⟨c1, c2, c3⟩ := hcl.get p
   have hup : (s.ck.get p).2.2.d.down = false := by rw [c1]; exact h.up
   have hlook : ∀ q : TS, q.ck = (s.ck.get p).2.2 → (Clean q.ck ∧ V = fileNode (fileOf q)) ∨ Snug V q.ck := fun q e => .inl ⟨by rw [e]; exact c3, by
    have : fileOf q = fileOf s := by unfold fileOf; rw [e, c1, c2]
    rw [this]; exact hview⟩
   rw [tRead_eq ho]
   by_cases hr : p < 0 ∨ 1048576 ≤ p
   · have e : s.ck.get p = (1, [], s.ck) := by unfold Ck.get; rw [if_pos hr]
     have hv : V p = none := by rw [hview]; unfold fileNode; rw [if_pos (by omega)]
     refine ⟨_, ⟨hts, by rw [e]; exact h.good, hup, hlook _ rfl, hleft⟩, rfl, c1, ?_⟩
     rw [hv, e]
     simp [rdOut]
   · have h0 : 0 ≤ p := by omega
     have h1 : p < 1048576 := by omega
     have hg := Pf.get_good h.ts.ok h.good h0 h1
     refine ⟨_, ⟨hts, hg.good, hup, hlook _ rfl, hleft⟩, rfl, c1, ?_⟩
     by_cases hl : 256 * p.toNat + 256 ≤ (fnow s.ck.d s.ck.nm).length
     · have hf : Filed (fnow s.ck.d s.ck.nm) p (((fnow s.ck.d s.ck.nm).drop (256 * p.toNat)).take 256) := ⟨h0, hl, rfl⟩
       rcases hg.got _ (filed_has h.ts.ok h.good hcl hf) with e | e | ⟨e1, e2⟩
       · omega
       · omega
       · rw [if_pos e1, e2]
         have hv : V p = openNd p (((fnow s.ck.d s.ck.nm).drop (256 * p.toNat)).take 256) := by
          rw [hview]; unfold fileNode fileOf; rw [if_neg (by omega)]
         rw [hv]
         cases openNd p (((fnow s.ck.d s.ck.nm).drop (256 * p.toNat)).take 256) <;> rfl
     · have e := get_none h.ts.ok h.good h.up hcl h0 h1 (by omega)
       rw [if_neg (by rw [e]; omega), if_pos (.inl e)]
       have hv : V p = none := by rw [hview]; unfold fileNode fileOf; rw [if_pos (by omega)]
       rw [hv]
       rfl
 · obtain ⟨c1, c3, c4⟩ := hsn.get h.ts.ok h.up p
   have hup : (s.ck.get p).2.2.d.down = false := by rw [c1]; exact h.up
   rw [tRead_eq ho]
   by_cases hr : p < 0 ∨ 1048576 ≤ p
   · have e : s.ck.get p = (1, [], s.ck) := by unfold Ck.get; rw [if_pos hr]
     have hn : pget p s.ck.pgs = none := by
      cases hp2 : pget p s.ck.pgs with
      | none => rfl
      | some b => have := h.ts.ok.page _ (pget_mem hp2); simp only at this; omega
     have hv : V p = none := by rw [hsn.view, hn]; split <;> rfl
     refine ⟨_, ⟨hts, by rw [e]; exact h.good, hup, .inr c3, hleft⟩, rfl, c1, ?_⟩
     rw [hv, e]
     simp [rdOut]
   · have h0 : 0 ≤ p := by omega
     have h1 : p < 1048576 := by omega
     have hg := Pf.get_good h.ts.ok h.good h0 h1
     refine ⟨_, ⟨hts, hg.good, hup, .inr c3, hleft⟩, rfl, c1, ?_⟩
     cases hp2 : pget p s.ck.pgs with
     | none =>
       have hv : V p = none := by rw [hsn.view, hp2]; split <;> rfl
       rw [hv]
       rcases c4 hp2 with e | e
       · rw [if_neg (by rw [e]; omega), if_pos (.inr e)]; rfl
       · rw [if_neg (by rw [e]; omega), if_pos (.inl e)]; rfl
     | some b =>
       have hv : V p = openNd p b := by rw [hsn.view, hp2, if_neg (by omega)]
       rcases hg.got _ (.inl hp2) with e | e | ⟨e1, e2⟩
       · omega
       · omega
       · rw [if_pos e1, e2, hv]
         cases openNd p b <;> rfl
end Go.Proofs.YtfhbmblbidcmmaaGreat
namespace Go.Proofs.YtfhbmblbidcmmaaGreat
set_option linter.unusedSimpArgs false
set_option linter.unusedVariables false
open Go.RowKit Go.Sl Go.Dk Go.Tr
open Go.Lru (ikey)
attribute [local go_sem ↓] Go.wp_at_zero Go.wp_at_succ
attribute [local go_sem] Go.Sl.cell_sat Go.Sl.frozen_sat
abbrev TSn : TypeId := 159
abbrev TKn : TypeId := 248
abbrev TLf : TypeId := 249
abbrev TTp : TypeId := 41
def zeroSn : Value := snV sn0
instance mapKn : MapT Tryz.prog TKn Int ikey (.agg #[.int .i64 0, .int .i64 0, .int .i64 0, .int .i64 0, .int .i64 0, .int .i64 0, .int .i64 0, .int .i64 0, .int .i64 0, .int .i64 0]) := ⟨TIn, TSn, keyOk3, Tryz.underlying248, fun w => by kernel_rfl⟩
theorem look_Kn (w : World) (M : Nat) (k : Int) {A : Assn} {ms : List (Int × Value)} [h : SatI A w] [h2 : HasM A M ikey ms] : (Instr.lookup TKn (.map (some M)) (.int .i64 k) true).run Tryz.prog w = .ok (.tuple #[(mget k ms).getD zeroSn, .bool (mget k ms).isSome]) w := lookup2_run mapKn w M k
theorem put_Kn (w : World) (M : Nat) (k : Int) (v : Value) {A : Assn} {ms : List (Int × Value)} [h : SatI A w] [h2 : HasM A M ikey ms] : (Instr.mapUpdate TKn (.map (some M)) (.int .i64 k) v).run Tryz.prog w = .ok () (putW Tryz.prog TKn M (ikey k) v w) := put_run mapKn w M k v
instance {w : World} {M : Nat} {k : Int} {v : Value} {A A' : Assn} {ms : List (Int × Value)} [h : SatI A w] [h2 : HasM A M ikey ms] [h3 : UpdM A M ikey (mput k v ms) A'] : SatI A' (putW Tryz.prog TKn M (ikey k) v w) := put_sat mapKn
def lookA (bK bT bL M : Nat) (h : Th) (K : List (Int × Sn)) : Assn := Sl.block bK TKn [.map (some M)] * (Sl.block bT TTp [.pointer (some ⟨h.t, 0, none⟩)] * (Sl.block bL TLf [.func (Fn.func 128) #[] #[.pointer (some ⟨bK, 0, none⟩), .pointer (some ⟨bT, 0, none⟩), .pointer (some ⟨bL, 0, none⟩)]] * mp ikey M (kn K)))
theorem look_keep {A R R1 R2 R3 R4 R5 : Assn} {w : World} [SatI A w] (h : Th) (s : TS) (bK bT bL M : Nat) (K : List (Int × Sn)) (F : Assn) [Take A (treeP h s) R] [Take R (Sl.block bK TKn [.map (some M)]) R1] [Take R1 (Sl.block bT TTp [.pointer (some ⟨h.t, 0, none⟩)]) R2] [Take R2 (Sl.block bL TLf [.func (Fn.func 128) #[] #[.pointer (some ⟨bK, 0, none⟩), .pointer (some ⟨bT, 0, none⟩), .pointer (some ⟨bL, 0, none⟩)]]) R3] [Take R3 (mp ikey M (kn K)) R4] [Take R4 F R5] : Sat (treeP h s * (lookA bK bT bL M h K * F)) w :=
 (keep6 (treeP h s) (Sl.block bK TKn [.map (some M)]) (Sl.block bT TTp [.pointer (some ⟨h.t, 0, none⟩)]) (Sl.block bL TLf [.func (Fn.func 128) #[] #[.pointer (some ⟨bK, 0, none⟩), .pointer (some ⟨bT, 0, none⟩), .pointer (some ⟨bL, 0, none⟩)]]) (mp ikey M (kn K)) F).eq (by unfold lookA; ac_rfl)
section
variable [TopN]
def RdEnds (h : Th) (V : Int → Option Nd) (m : Nat) (s : TS) (no : Int) (F : Assn) (e : Ending) (w' : World) : Prop := ∃ s', Rdy V m s' ∧ s'.sp = s.sp ∧ s'.ck.d = s.ck.d ∧
 ((∃ n v B, V no = some n ∧ e = .returned v ∧ ReadsN B v n ∧ Sat (treeP h s' * (B * F)) w') ∨ (V no = none ∧ e = .panicked (faultC 13) ∧ Sat (treeP h s' * F) w'))
theorem rd_call (h : Th) (V : Int → Option Nd) (m : Nat) (s : TS) (no : Int) (F : Assn) (w : World) (hR : Rdy V (m + 1) s) (hp : no ≠ 0) (hs : Sat (treeP h s * F) w) :
 Calls Tryz.prog 129 #[.pointer (some ⟨h.t, 0, none⟩), .int .i64 no] w (RdEnds h V m s no F) := by
 obtain ⟨s', h1, h2, h3, h4⟩ := hR.read hp
 have hc := tread_any h s no F w hs (by rw [h4]; cases V no <;> simp [rdOut])
 rw [h4] at hc
 refine hc.mono fun e w' ht => ?_
 cases hv : V no with
 | none =>
   rw [hv] at ht
   exact ⟨s', h1, h2, h3, .inr ⟨hv, ht.1, ht.2⟩⟩
 | some n =>
   rw [hv] at ht
   obtain ⟨v, B, e1, ⟨e2, _⟩, e3⟩ := ht
   exact ⟨s', h1, h2, h3, .inl ⟨n, v, B, hv, e1, e2, e3⟩⟩
def LookOut (V : Int → Option Nd) (N : Nat) (h : Th) (bK bT bL M f m : Nat) (s : TS) (K : List (Int × Sn)) (no : Int) (top : Bool) (F : Assn) (e : Ending) (w' : World) : Prop := ∃ s' K', Sat (treeP h s' * (lookA bK bT bL M h K' * F)) w' ∧ s'.sp = s.sp ∧ s'.ck.d = s.ck.d ∧
 ((∃ y m', e = .returned (snV y) ∧ Chk V no top y ∧ (K = [] → y.h < f) ∧ KnOk V K' ∧ (∀ q ∈ K', q ∈ K ∨ q.2.h ≤ y.h) ∧ Rdy V m' s' ∧ m + 13 * fr N K' ≤ m' + 13 * fr N K + (if top then 13 else 0)) ∨
  (e = .panicked (faultC 13) ∧ chk V f no top = none ∧ Rdy V 0 s'))
def LookC (f : Nat) : Prop := ∀ (V : Int → Option Nd) (N : Nat) (h : Th) (s : TS) (m : Nat) (K : List (Int × Sn)) (no : Int) (top : Bool) (bK bT bL M : Nat) (F : Assn) (w : World), f ≤ 13 → no ≠ 0 → KnOk V K → (∀ p n, V p = some n → may n = true ∧ p < N) → Rdy V m s → 13 * fr N K + 13 * (f + 1) ≤ m →
 Sat (treeP h s * (lookA bK bT bL M h K * F)) w → Calls Tryz.prog 128 #[.int .i64 no, .bool top, .int .i64 (13 - (f : Int)), .pointer (some ⟨bK, 0, none⟩), .pointer (some ⟨bT, 0, none⟩), .pointer (some ⟨bL, 0, none⟩)] w (LookOut V N h bK bT bL M f m s K no top F)
theorem Rdy.less {V : Int → Option Nd} {m m' : Nat} {s : TS} (h : Rdy V m s) (k : m' ≤ m) : Rdy V m' s := ⟨h.ts, h.good, h.up, h.look, Nat.le_trans k h.left⟩
set_option maxRecDepth 100000 in
set_option maxHeartbeats 3200000 in
theorem look_hit (f : Nat) (V : Int → Option Nd) (N : Nat) (h : Th) (s : TS) (m : Nat) (K : List (Int × Sn)) (no : Int) (bK bT bL M : Nat) (F : Assn) (w : World) (hK : KnOk V K) (hR : Rdy V m s) (y : Sn) (hy : kget no K = some y)
 (hs : Sat (treeP h s * (lookA bK bT bL M h K * F)) w) : Calls Tryz.prog 128 #[.int .i64 no, .bool false, .int .i64 (13 - (f : Int)), .pointer (some ⟨bK, 0, none⟩), .pointer (some ⟨bT, 0, none⟩), .pointer (some ⟨bL, 0, none⟩)] w (LookOut V N h bK bT bL M f m s K no false F) := by
 have HC : Aside (Chk V no false y) := hK.get hy
 have HKE0 : K ≠ [] := fun e => by
  rw [e] at hy
  cases hy
 have HKE : Aside (K ≠ []) := HKE0
 have HK : Aside (KnOk V K) := hK
 have HR : Aside (Rdy V m s) := hR
 obtain ⟨yh, yc, ⟨a1, a2, a3, a4⟩, ⟨b1, b2, b3, b4⟩⟩ := y
 unfold lookA at hs
 haveI := hs.i
 have hlk : (Instr.lookup TKn (.map (some M)) (.int .i64 no) true).run Tryz.prog (w.alloc (.cells #[.int .i64 0, .int .i64 0, .int .i64 0, .int .i64 0, .int .i64 0, .int .i64 0, .int .i64 0, .int .i64 0, .int .i64 0, .int .i64 0] TSn)) = .ok (.tuple #[.agg #[.int .i64 yh, .int .i64 yc, .int .i64 a1, .int .i64 a2, .int .i64 a3, .int .i64 a4, .int .i64 b1, .int .i64 b2, .int .i64 b3, .int .i64 b4], .bool true]) (w.alloc (.cells #[.int .i64 0, .int .i64 0, .int .i64 0, .int .i64 0, .int .i64 0, .int .i64 0, .int .i64 0, .int .i64 0, .int .i64 0, .int .i64 0] TSn)) := by
  rw [look_Kn, mget_kn, hy]
  rfl
 clear hK hR hy hs HKE0
 go_enter Tryz.func128, Tryz.ntmps128
 go_wp2
 go_returns
 refine ⟨s, K, ?_, rfl, rfl, .inl ⟨_, m, rfl, HC.out, fun e => absurd e HKE.out, HK.out, fun q hq => .inl hq, HR.out, by simp⟩⟩
 exact look_keep h s bK bT bL M K F
end
end Go.Proofs.YtfhbmblbidcmmaaGreat
