/-
  Walks of package disk: Load.
-/
import Derived.Test.YtjhkmmpgjiciiaaDk6
namespace Go.Proofs.Ytjhkmmpgjiciiaa
set_option linter.unusedSimpArgs false
set_option linter.unusedVariables false
open Go.RowKit Go.Sl Go.Dk
attribute [local go_sem ↓] Go.wp_at_zero Go.wp_at_succ

theorem load_put {M D : Nat} {ms : List (ByteArray × Value)} (nm : ByteArray) {ra sa : Option Addr} {rc sc : Nat} {l : List UInt8} {B G : Assn} {w : World}
    (hs : Sat (rw TB 1 (.slice ra l.length rc) (bys l) * (rw TB 1 (.slice sa l.length sc) (bys l) * (B * (Sl.cell D 5 (.map (some M)) * (mp skey M ms * G))))) w) :
    ∃ w', (Instr.mapUpdate TFM (.map (some M)) (.string nm) (.pointer (some ⟨w.heap.size, 0, none⟩))).run Try.prog (w.alloc (.cells #[.slice ra l.length rc, .slice sa l.length sc, .bool true] TF)) = .ok () w' ∧
      Sat (fileA ⟨w.heap.size, nm, ⟨l, l, true⟩, .slice ra l.length rc, .slice sa l.length sc⟩ * (mp skey M (mput nm (.pointer (some ⟨w.heap.size, 0, none⟩)) ms) * (B * (Sl.cell D 5 (.map (some M)) * G)))) w' := by
  have hs1 := hs.alloc #[.slice ra l.length rc, .slice sa l.length sc, .bool true] TF
  obtain ⟨o, ho, hs2⟩ := (hs1.take (mp skey M ms)).mp_open
  obtain ⟨o', ho', hup⟩ := run_mapUpdate_mp (P := Try.prog) keyOkS Try.underlying113 hs2.obj ho nm (.pointer (some ⟨w.heap.size, 0, none⟩))
  refine ⟨_, hup, ?_⟩
  have hs3 := Sat.mp_shut ho' (hs2.setRaw o')
  refine hs3.eq ?_
  unfold fileA
  simp only [block, Sl.cells, sep_one, List.length_cons, List.length_nil, Nat.zero_add, Nat.reduceAdd]
  ac_rfl

def core5 (D : Nat) (pv : Value) (d : Dk) : Assn :=
  hdr D TD 7 * (Sl.cell D 0 (.int .i64 d.room) * (Sl.cell D 1 (.int .i64 d.changes) * (Sl.cell D 2 (.int .i64 d.left) * (Sl.cell D 3 (.bool d.armed) * (Sl.cell D 4 (.bool d.down) * Sl.cell D 6 pv)))))
theorem coreD_5 (D M : Nat) (pv : Value) (d : Dk) : coreD D M pv d = Sl.cell D 5 (.map (some M)) * core5 D pv d := by unfold coreD core5; ac_rfl

set_option maxRecDepth 100000 in
set_option maxHeartbeats 4000000 in
theorem loaded_go (D M : Nat) (ns : List Nf) (pv : Value) (ps : List Np) (d : Dk) (nm : ByteArray) (fv : Value) (v : Value) (l : List UInt8) (B F : Assn) (w : World) (hB : Reads B v l) (hs : Sat (diskA D M ns pv ps d * (B * F)) w)
    (hsz : nm.size ≤ 9223372036854775807) (hn : named nm = true) (hl : l.length ≤ 35184372088832) (hp : ps.length ≤ 1099511627776)
    (hlook : (Instr.lookup TFM (.map (some M)) (.string nm) false).run Try.prog w = .ok fv w)
    (hfits : Calls Try.prog 71 #[.pointer (some ⟨D, 0, none⟩), fv, .int .i64 l.length] w fun e w' => e = .returned (.int .i64 0) ∧ Sat (diskA D M ns pv ps d * (B * F)) w') :
    Calls Try.prog 30 #[.pointer (some ⟨D, 0, none⟩), .string nm, v] w fun e w' => ∃ b rv nv sv, e = .returned (.int .i64 0) ∧
      Sat (coreD D M rv d * (pendA rv (others nm ps) * (fileA ⟨b, nm, ⟨l, l, true⟩, nv, sv⟩ * (mp skey M (mput nm (.pointer (some ⟨b, 0, none⟩)) (ns.map kvF)) * (filesA ns * (B * F)))))) w' := by
  have hna := named_any nm w hsz
  rw [hn] at hna
  obtain ⟨xa, xc, rfl, hxc, hxm⟩ := (hB _ _ (hs.take B)).len
  obtain ⟨i0, E⟩ := elemB
  have c5 : w.cell? ⟨D, 5, none⟩ = some (.map (some M)) := by unfold diskA coreD at hs; exact hs.c D 5
  clear hs hn
  go_enter Try.func30, Try.ntmps30
  go_wp2_with fail
  refine hna.mono ?_
  rintro e w' ⟨rfl, rfl⟩
  go_wp2_with fail
  refine hfits.mono ?_
  rintro e w1 ⟨rfl, hs1⟩
  have hset := settled_any D M pv ps d nm (mp skey M (ns.map kvF) * (filesA ns * (B * F))) w1 (hs1.eq (by unfold diskA; ac_rfl)) hp
  clear hna hlook hfits c5 hs1
  go_wp2_with fail
  refine hset.mono ?_
  rintro e w2' ⟨rv, rfl, hs2⟩
  clear hset
  go_wp2_with fail
  obtain ⟨G, HG⟩ : ∃ G, Aside (core5 D rv d * (pendA rv (others nm ps) * (filesA ns * F)) = G) := ⟨_, rfl⟩
  have hs4 : Sat (B * (Sl.cell D 5 (.map (some M)) * (mp skey M (ns.map kvF) * G))) w2' := hs2.eq (by rw [← HG.out, coreD_5]; ac_rfl)
  have g5 := hs4.c D 5
  have hD : D < w2'.heap.size := World.block_lt_of_cell? _ _ g5
  clear hs2
  have q1 := (rw_new0 (e := TB) (s := 1) hs4)
  have q2 := (rw_new0 (e := TB) (s := 1) q1).drew
  have q1 := q1.drew
  have e1 : (w2'.alloc (.cells #[] TB)).heap.size = w2'.heap.size + 1 := by simp
  rw [e1] at q2
  have j1 := q1.c D 5
  have j2 := q2.c D 5
  clear e1
  go_region_held3 (fun w' => w'.cell? ⟨D, 5, none⟩ = some (.map (some M))) (first | exact kz5 | exact kk5 | exact kb5 | exact k5 | exact k5n | exact j1 | exact j2 | exact g5) (first
        | (refine step_append_sl E rfl (.tmp 36) (.tmp 37) rfl rfl rfl (q1) ((hB _ _ (q1.take B)).src) (by unfold maxLen; omega) (by omega) ?_; intro ra rc w3 p1 hn3; simp only [Nat.zero_add, List.nil_append] at p1; have k5 := p1.c D 5; have k5n := (rw_new0 (e := TB) (s := 1) p1).c D 5; have hD3 : D < w3.heap.size := World.block_lt_of_cell? _ _ k5; clear hn3)
        | (refine step_append_sl E rfl (.tmp 36) (.tmp 37) rfl rfl rfl (q2.take (rw TB 1 (.slice (some ⟨w2'.heap.size, 0, none⟩) 0 0) [])) ((hB _ _ (q2.take B)).src) (by unfold maxLen; omega) (by omega) ?_; intro ra rc w3 p1 hn3; simp only [Nat.zero_add, List.nil_append] at p1; have k5 := p1.c D 5; have k5n := (rw_new0 (e := TB) (s := 1) p1).c D 5; have hD3 : D < w3.heap.size := World.block_lt_of_cell? _ _ k5; clear hn3)
        | (refine step_append_sl E rfl (.tmp 36) (.tmp 37) rfl rfl rfl (q2) ((hB _ _ (q2.take B)).src) (by unfold maxLen; omega) (by omega) ?_; intro ra rc w3 p1 hn3; simp only [Nat.zero_add, List.nil_append] at p1; have k5 := p1.c D 5; have k5n := (rw_new0 (e := TB) (s := 1) p1).c D 5; have hD3 : D < w3.heap.size := World.block_lt_of_cell? _ _ k5; clear hn3)
        | (refine step_append_sl E rfl (.tmp 39) (.tmp 40) rfl rfl rfl (q1) ((hB _ _ (q1.take B)).src) (by unfold maxLen; omega) (by omega) ?_; intro sa sc w3 p1 hn3; simp only [Nat.zero_add, List.nil_append] at p1; have k5 := p1.c D 5; have k5n := (rw_new0 (e := TB) (s := 1) p1).c D 5; have hD3 : D < w3.heap.size := World.block_lt_of_cell? _ _ k5; clear hn3)
        | (refine step_append_sl E rfl (.tmp 39) (.tmp 40) rfl rfl rfl (q2.take (rw TB 1 (.slice (some ⟨w2'.heap.size, 0, none⟩) 0 0) [])) ((hB _ _ (q2.take B)).src) (by unfold maxLen; omega) (by omega) ?_; intro sa sc w3 p1 hn3; simp only [Nat.zero_add, List.nil_append] at p1; have k5 := p1.c D 5; have k5n := (rw_new0 (e := TB) (s := 1) p1).c D 5; have hD3 : D < w3.heap.size := World.block_lt_of_cell? _ _ k5; clear hn3)
        | (refine step_append_sl E rfl (.tmp 39) (.tmp 40) rfl rfl rfl (q2) ((hB _ _ (q2.take B)).src) (by unfold maxLen; omega) (by omega) ?_; intro sa sc w3 p1 hn3; simp only [Nat.zero_add, List.nil_append] at p1; have k5 := p1.c D 5; have k5n := (rw_new0 (e := TB) (s := 1) p1).c D 5; have hD3 : D < w3.heap.size := World.block_lt_of_cell? _ _ k5; clear hn3)
        | (refine step_append_sl E rfl (.tmp 36) (.tmp 37) rfl rfl rfl (rw_new0 (e := TB) (s := 1) p1) ((hB _ _ ((rw_new0 (e := TB) (s := 1) p1).take B)).src) (by unfold maxLen; omega) (by omega) ?_; intro ra rc w4 p4 hn4; simp only [Nat.zero_add, List.nil_append] at p4; have p5 : Sat (rw TB 1 (.slice ra l.length rc) (bys l) * (rw TB 1 (.slice sa l.length sc) (bys l) * (B * (Sl.cell D 5 (.map (some M)) * (mp skey M (ns.map kvF) * G))))) w4 := p4.eq (by ac_rfl); clear hn4; obtain ⟨w5, hup, hs8⟩ := load_put nm p5; have kz5 := hs8.c D 5; have kk5 := p5.c D 5; have kb5 := (p5.alloc #[.slice ra l.length rc, .slice sa l.length sc, .bool true] TF).c D 5; have hD4 : D < w4.heap.size := World.block_lt_of_cell? _ _ kk5; clear p1 p4)
        | (refine step_append_sl E rfl (.tmp 36) (.tmp 37) rfl rfl rfl (p1.take (rw TB 1 (.slice (some ⟨w2'.heap.size, 0, none⟩) 0 0) [])) ((hB _ _ (p1.take B)).src) (by unfold maxLen; omega) (by omega) ?_; intro ra rc w4 p4 hn4; simp only [Nat.zero_add, List.nil_append] at p4; have p5 : Sat (rw TB 1 (.slice ra l.length rc) (bys l) * (rw TB 1 (.slice sa l.length sc) (bys l) * (B * (Sl.cell D 5 (.map (some M)) * (mp skey M (ns.map kvF) * G))))) w4 := p4.eq (by ac_rfl); clear hn4; obtain ⟨w5, hup, hs8⟩ := load_put nm p5; have kz5 := hs8.c D 5; have kk5 := p5.c D 5; have kb5 := (p5.alloc #[.slice ra l.length rc, .slice sa l.length sc, .bool true] TF).c D 5; have hD4 : D < w4.heap.size := World.block_lt_of_cell? _ _ kk5; clear p1 p4)
        | (refine step_append_sl E rfl (.tmp 36) (.tmp 37) rfl rfl rfl (p1.take (rw TB 1 (.slice (some ⟨w2'.heap.size + 1, 0, none⟩) 0 0) [])) ((hB _ _ (p1.take B)).src) (by unfold maxLen; omega) (by omega) ?_; intro ra rc w4 p4 hn4; simp only [Nat.zero_add, List.nil_append] at p4; have p5 : Sat (rw TB 1 (.slice ra l.length rc) (bys l) * (rw TB 1 (.slice sa l.length sc) (bys l) * (B * (Sl.cell D 5 (.map (some M)) * (mp skey M (ns.map kvF) * G))))) w4 := p4.eq (by ac_rfl); clear hn4; obtain ⟨w5, hup, hs8⟩ := load_put nm p5; have kz5 := hs8.c D 5; have kk5 := p5.c D 5; have kb5 := (p5.alloc #[.slice ra l.length rc, .slice sa l.length sc, .bool true] TF).c D 5; have hD4 : D < w4.heap.size := World.block_lt_of_cell? _ _ kk5; clear p1 p4)
        | (refine step_append_sl E rfl (.tmp 39) (.tmp 40) rfl rfl rfl (rw_new0 (e := TB) (s := 1) p1) ((hB _ _ ((rw_new0 (e := TB) (s := 1) p1).take B)).src) (by unfold maxLen; omega) (by omega) ?_; intro sa sc w4 p4 hn4; simp only [Nat.zero_add, List.nil_append] at p4; have p5 : Sat (rw TB 1 (.slice ra l.length rc) (bys l) * (rw TB 1 (.slice sa l.length sc) (bys l) * (B * (Sl.cell D 5 (.map (some M)) * (mp skey M (ns.map kvF) * G))))) w4 := p4.eq (by ac_rfl); clear hn4; obtain ⟨w5, hup, hs8⟩ := load_put nm p5; have kz5 := hs8.c D 5; have kk5 := p5.c D 5; have kb5 := (p5.alloc #[.slice ra l.length rc, .slice sa l.length sc, .bool true] TF).c D 5; have hD4 : D < w4.heap.size := World.block_lt_of_cell? _ _ kk5; clear p1 p4)
        | (refine step_append_sl E rfl (.tmp 39) (.tmp 40) rfl rfl rfl (p1.take (rw TB 1 (.slice (some ⟨w2'.heap.size, 0, none⟩) 0 0) [])) ((hB _ _ (p1.take B)).src) (by unfold maxLen; omega) (by omega) ?_; intro sa sc w4 p4 hn4; simp only [Nat.zero_add, List.nil_append] at p4; have p5 : Sat (rw TB 1 (.slice ra l.length rc) (bys l) * (rw TB 1 (.slice sa l.length sc) (bys l) * (B * (Sl.cell D 5 (.map (some M)) * (mp skey M (ns.map kvF) * G))))) w4 := p4.eq (by ac_rfl); clear hn4; obtain ⟨w5, hup, hs8⟩ := load_put nm p5; have kz5 := hs8.c D 5; have kk5 := p5.c D 5; have kb5 := (p5.alloc #[.slice ra l.length rc, .slice sa l.length sc, .bool true] TF).c D 5; have hD4 : D < w4.heap.size := World.block_lt_of_cell? _ _ kk5; clear p1 p4)
        | (refine step_append_sl E rfl (.tmp 39) (.tmp 40) rfl rfl rfl (p1.take (rw TB 1 (.slice (some ⟨w2'.heap.size + 1, 0, none⟩) 0 0) [])) ((hB _ _ (p1.take B)).src) (by unfold maxLen; omega) (by omega) ?_; intro sa sc w4 p4 hn4; simp only [Nat.zero_add, List.nil_append] at p4; have p5 : Sat (rw TB 1 (.slice ra l.length rc) (bys l) * (rw TB 1 (.slice sa l.length sc) (bys l) * (B * (Sl.cell D 5 (.map (some M)) * (mp skey M (ns.map kvF) * G))))) w4 := p4.eq (by ac_rfl); clear hn4; obtain ⟨w5, hup, hs8⟩ := load_put nm p5; have kz5 := hs8.c D 5; have kk5 := p5.c D 5; have kb5 := (p5.alloc #[.slice ra l.length rc, .slice sa l.length sc, .bool true] TF).c D 5; have hD4 : D < w4.heap.size := World.block_lt_of_cell? _ _ kk5; clear p1 p4))
  all_goals
    go_wp2
    go_ret
    exact ⟨w4.heap.size, rv, .slice ra l.length rc, .slice sa l.length sc, rfl, hs8.eq (by rw [← HG.out, coreD_5]; ac_rfl)⟩

theorem mput_foundF {l1 : List Nf} {n n' : Nf} {l2 : List Nf} (h : ∀ m ∈ l1, m.nm ≠ n.nm) (hn : n'.nm = n.nm) : mput n.nm (.pointer (some ⟨n'.b, 0, none⟩)) ((l1 ++ n :: l2).map kvF) = (l1 ++ n' :: l2).map kvF := by
  induction l1 with
  | nil => simp [kvF, mput, hn]
  | cons m l ih =>
    show (if n.nm = m.nm then _ else _) = _
    rw [if_neg (fun e => h m (by simp) e.symm)]
    have := ih fun m hm => h m (by simp [hm])
    simp only [List.map_cons, List.cons_append, this]
    exact congrArg _ this
theorem mput_noneF {ns : List Nf} {n' : Nf} (h : ∀ m ∈ ns, m.nm ≠ n'.nm) : mput n'.nm (.pointer (some ⟨n'.b, 0, none⟩)) (ns.map kvF) = (ns ++ [n']).map kvF := by
  rw [mput_new (mget_noneF h)]; simp [kvF]

theorem lens_ok {m : Nat} {d : Dk} {ns : List Nf} (ok : Ok m d) (hf : fents ns = d.files) : lens ns ≤ 17592186044416 := by
  have h1 : ∀ l : List Nf, (∀ n ∈ l, n.f.now.length ≤ 1099511627776) → lens l ≤ l.length * 1099511627776 := by
    intro l
    induction l with
    | nil => intro _; simp [lens]
    | cons n l ih =>
      intro h
      have := ih fun m hm => h m (by simp [hm])
      have := h n (by simp)
      rw [lens_cons, List.length_cons]
      omega
  have h2 := h1 ns fun n hn => (ok.sz (n.nm, n.f) (by rw [← hf]; exact List.mem_map.2 ⟨n, hn, rfl⟩)).1
  have h3 : ns.length ≤ 16 := by have := ok.nf; rw [← hf] at this; simpa [fents] using this
  have h4 : ns.length * 1099511627776 ≤ 16 * 1099511627776 := Nat.mul_le_mul_right _ h3
  omega

set_option maxRecDepth 100000 in
set_option maxHeartbeats 800000 in
theorem load_any (D : Nat) (d : Dk) (m : Nat) (nm : ByteArray) (v : Value) (l : List UInt8) (B F : Assn) (w : World) (hB : Reads B v l) (hs : Sat (diskP D d * (B * F)) w) (hsz : nm.size ≤ 9223372036854775807) (hl : l.length ≤ 35184372088832) (ok : Ok m d) (hm' : m ≤ big) :
    Calls Try.prog 30 #[.pointer (some ⟨D, 0, none⟩), .string nm, v] w fun e w' => e = .returned (.int .i64 (d.load nm l).1) ∧ Sat (diskP D (d.load nm l).2 * (B * F)) w' := by
  have hbig : m ≤ 1099511627776 := hm'
  obtain ⟨xa, xc, rfl, hxc, hxm⟩ := (hB _ _ (hs.take B)).len
  obtain ⟨M, ns, pv, ps, h1, h2, h3⟩ := Sat.disk_open hs
  have hlen := lens_ok ok h1
  have hpl : ps.length ≤ 1099511627776 := by have := ok.pend; rw [← h2] at this; simp [pents] at this; omega
  have c5 : w.cell? ⟨D, 5, none⟩ = some (.map (some M)) := by unfold diskA coreD at h3; exact h3.c D 5
  cases hn : named nm with
  | false =>
    have e1 : d.load nm l = (1, d) := by unfold Dk.load; rw [if_pos hn]
    rw [e1]
    have hna := named_any nm w hsz
    rw [hn] at hna
    clear h1 h2 h3 ok hn e1
    go_enter Try.func30, Try.ntmps30
    go_wp2_with fail
    refine hna.mono ?_
    rintro e w' ⟨rfl, rfl⟩
    go_wp2
    go_ret
    exact ⟨rfl, hs⟩
  | true =>
    have bad : ∀ (fv : Value) (q : Int), q ≠ 0 → (Instr.lookup TFM (.map (some M)) (.string nm) false).run Try.prog w = .ok fv w →
        (Calls Try.prog 71 #[.pointer (some ⟨D, 0, none⟩), fv, .int .i64 l.length] w fun e w' => e = .returned (.int .i64 q) ∧ Sat (diskA D M ns pv ps d * (B * F)) w') →
        Calls Try.prog 30 #[.pointer (some ⟨D, 0, none⟩), .string nm, .slice xa l.length xc] w fun e w' => e = .returned (.int .i64 q) ∧ Sat (diskA D M ns pv ps d * (B * F)) w' := by
      intro fv q hq hlook hfits
      have hna := named_any nm w hsz
      rw [hn] at hna
      have hb : (q != 0) = true := by simpa using hq
      clear h1 h2 h3 ok hn hs hq
      go_enter Try.func30, Try.ntmps30
      go_wp2_with fail
      refine hna.mono ?_
      rintro e w' ⟨rfl, rfl⟩
      go_wp2_with fail
      refine hfits.mono ?_
      rintro e w1 ⟨rfl, hs1⟩
      go_wp2
      go_ret
      exact ⟨rfl, hs1⟩
    rcases nf_cases ns nm with ⟨l1, x, l2, rfl, rfl, h5⟩ | h5
    · have hg : d.get x.nm = some x.f := by unfold Dk.get; rw [← h1, fget_found h5]
      have hlook := look_foundF (F := coreD D M pv d * (filesA (l1 ++ x :: l2) * (pendA pv ps * (B * F)))) (h3.eq (by unfold diskA; ac_rfl)) h5
      have hfits := fits_some D M l1 x l2 pv ps d l.length (B * F) w h3 h1 (by omega) (by omega) (by omega)
      by_cases hf : d.fits (some x.f) l.length = 0
      · rw [hf] at hfits
        have e1 : d.load x.nm l = (0, (d.settled x.nm).put x.nm ⟨l, l, true⟩) := by unfold Dk.load; rw [if_neg (by simp [hn]), hg, if_neg (by simp [hf])]
        rw [e1]
        refine (loaded_go D M _ pv ps d x.nm _ _ l B F w hB h3 hsz hn hl hpl hlook hfits).mono ?_
        rintro e w' ⟨b, rv, nv, sv, rfl, hs1⟩
        refine ⟨rfl, ?_⟩
        refine Sat.disk_shut (M := M) (ns := l1 ++ ⟨b, x.nm, ⟨l, l, true⟩, nv, sv⟩ :: l2) (pv := rv) (ps := others x.nm ps) ?_ (by rw [others_pents, h2]; rfl) ?_
        · show _ = fput x.nm ⟨l, l, true⟩ d.files
          rw [← h1, fput_found _ h5]; simp [fents]
        · have e2 := mput_foundF (n' := ⟨b, x.nm, ⟨l, l, true⟩, nv, sv⟩) (l2 := l2) h5 rfl
          rw [e2] at hs1
          refine Sat.weak (B := fileA x) (hs1.eq ?_)
          rw [disk_core, filesA_append, filesA_append, filesA, filesA]
          show coreD D M rv d * _ = coreD D M rv d * _ * _ * _
          ac_rfl
      · have e1 : d.load x.nm l = (d.fits (some x.f) l.length, d) := by unfold Dk.load; rw [if_neg (by simp [hn]), hg, if_pos hf]
        rw [e1]
        exact (bad _ _ hf hlook hfits).mono fun e w' ⟨h6, h7⟩ => ⟨h6, Sat.disk_shut h1 h2 h7⟩
    · have hg : d.get nm = none := by unfold Dk.get; rw [← h1, fget_none h5]
      have hlook := look_noneF (F := coreD D M pv d * (filesA ns * (pendA pv ps * (B * F)))) (h3.eq (by unfold diskA; ac_rfl)) h5
      have hfits := fits_none D M ns pv ps d l.length (B * F) w h3 h1 (by omega) (by omega) (by omega)
      by_cases hf : d.fits none l.length = 0
      · rw [hf] at hfits
        have e1 : d.load nm l = (0, (d.settled nm).put nm ⟨l, l, true⟩) := by unfold Dk.load; rw [if_neg (by simp [hn]), hg, if_neg (by simp [hf])]
        rw [e1]
        refine (loaded_go D M _ pv ps d nm _ _ l B F w hB h3 hsz hn hl hpl hlook hfits).mono ?_
        rintro e w' ⟨b, rv, nv, sv, rfl, hs1⟩
        refine ⟨rfl, ?_⟩
        refine Sat.disk_shut (M := M) (ns := ns ++ [⟨b, nm, ⟨l, l, true⟩, nv, sv⟩]) (pv := rv) (ps := others nm ps) ?_ (by rw [others_pents, h2]; rfl) ?_
        · show _ = fput nm ⟨l, l, true⟩ d.files
          rw [← h1, fput_none _ h5]; simp [fents]
        · have e2 := mput_noneF (n' := ⟨b, nm, ⟨l, l, true⟩, nv, sv⟩) h5
          rw [e2] at hs1
          refine hs1.eq ?_
          rw [disk_core, filesA_append, filesA, filesA, sep_one]
          show coreD D M rv d * _ = coreD D M rv d * _ * _
          ac_rfl
      · have e1 : d.load nm l = (d.fits none l.length, d) := by unfold Dk.load; rw [if_neg (by simp [hn]), hg, if_pos hf]
        rw [e1]
        exact (bad _ _ hf hlook hfits).mono fun e w' ⟨h6, h7⟩ => ⟨h6, Sat.disk_shut h1 h2 h7⟩

end Go.Proofs.Ytjhkmmpgjiciiaa
