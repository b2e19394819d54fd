/-
  Versions are found sound just if they are in the words of the document. No condition. (part 4)
-/
import Derived.Test.YtfhbmblbidcmmaaGreatWa2
import Derived.Test.YtfhbmblbidcmmaaGreatWa3
import Derived.Test.YtfhbmblbidcmmaaGreatWa1
set_option linter.unusedSimpArgs false
set_option linter.unusedVariables false
namespace Go.Proofs.YtfhbmblbidcmmaaGreat
set_option linter.unusedSimpArgs false
set_option linter.unusedVariables false
open Go.RowKit Go.Sl Go.Lru
def markedK (ns : List Nd) : List Int := (ns.filter (·.mkd)).map (·.key)
theorem sortI_perm {l l' : List Int} (h : l.Perm l') : sortI l = sortI l' := by
 have tr : ∀ a b c : Int, decide (a ≤ b) = true → decide (b ≤ c) = true → decide (a ≤ c) = true := by intro a b c; simp; omega
 have tot : ∀ a b : Int, (decide (a ≤ b) || decide (b ≤ a)) = true := by intro a b; simp; omega
 have h1 := List.pairwise_mergeSort tr tot l
 have h2 := List.pairwise_mergeSort tr tot l'
 have hp : (sortI l).Perm (sortI l') := (List.mergeSort_perm l _).trans (h.trans (List.mergeSort_perm l' _).symm)
 exact hp.eq_of_pairwise (fun a b _ _ hab hba => by simp at hab hba; omega) h1 h2
theorem perm_pick {rem : List (Int × Value)} {ns1 : List Nd} (h : rem.Perm (ns1.map kv)) {i : Nat} {p : Int × Value} (hi : rem[i]? = some p) :
 ∃ l1 n l2, ns1 = l1 ++ n :: l2 ∧ kv n = p ∧ (rem.eraseIdx i).Perm ((l1 ++ l2).map kv) := by
 have hm : p ∈ ns1.map kv := h.mem_iff.1 (List.mem_of_getElem? hi)
 obtain ⟨n, hn, rfl⟩ := List.mem_map.1 hm
 obtain ⟨l1, l2, rfl⟩ := List.append_of_mem hn
 refine ⟨l1, n, l2, rfl, rfl, ?_⟩
 have h1 : rem.Perm (kv n :: rem.eraseIdx i) := perm_eraseIdx rem i _ hi
 have h2 : ((l1 ++ n :: l2).map kv).Perm (kv n :: (l1 ++ l2).map kv) := by
  simp only [List.map_append, List.map_cons]
  exact List.perm_middle
 exact (List.perm_cons _).1 (h1.symm.trans (h.trans h2))
def MarkRel (ns : List Nd) (rem : List (Int × Value)) (ks : List Int) : Prop := ∃ ns1 : List Nd, rem.Perm (ns1.map kv) ∧ (∀ n ∈ ns1, n ∈ ns) ∧ (ks ++ markedK ns1).Perm (markedK ns) ∧ ks.length + ns1.length ≤ ns.length
theorem MarkRel.step {ns : List Nd} {rem : List (Int × Value)} {ks : List Int} (h : MarkRel ns rem ks) {i : Nat} {k : Int} {v : Value} (hi : rem[i]? = some (k, v)) :
 ∃ n ∈ ns, k = n.key ∧ v = .pointer (some ⟨n.b, 0, none⟩) ∧ ks.length < ns.length ∧ MarkRel ns (rem.eraseIdx i) (if n.mkd then ks ++ [n.key] else ks) := by
 obtain ⟨ns1, h1, h2, h3, h4⟩ := h
 obtain ⟨l1, n, l2, rfl, hkv, hp⟩ := perm_pick h1 hi
 simp only [kv, Prod.mk.injEq] at hkv
 simp only [List.length_append, List.length_cons] at h4
 refine ⟨n, h2 n (by simp), hkv.1.symm, hkv.2.symm, by omega, l1 ++ l2, hp, fun m hm => h2 m (by simp only [List.mem_append, List.mem_cons] at hm ⊢; rcases hm with h | h <;> simp [h]), ?_, ?_⟩
 · refine List.Perm.trans ?_ h3
   unfold markedK
   simp only [List.filter_append, List.filter_cons, List.map_append]
   cases hm : n.mkd with
   | false => simp
   | true =>
     simp only [if_true, List.map_cons, List.append_assoc]
     refine List.Perm.append_left ks ?_
     simp only [List.singleton_append]
     exact List.perm_middle.symm
 · split
   · simp; omega
   · simp; omega
theorem lru_mark {L M : Nat} {cap : Int} {ns : List Nd} {n : Nd} (hn : n ∈ ns) {o oi : Obj} {it : Nat} {F : Assn} {w : World} (hs : Sat (raw M o * (raw it oi * (core TL L M cap * (chain (ring L ns) * items TI ns) * F))) w) :
 w.cell? ⟨n.b, 2, none⟩ = some (.bool n.mkd) := by
 obtain ⟨l1, l2, rfl⟩ := List.append_of_mem hn
 rw [items_append, items] at hs
 unfold item at hs
 exact hs.c n.b 2
set_option maxHeartbeats 400000 in
theorem marked_any (L M : Nat) (cap : Int) (ns : List Nd) (F : Assn) (w : World) (hs : Sat (lruP TL TI L M cap ns * F) w) (hn : ns.length ≤ 4096) :
 Calls Tryz.prog 100 #[.pointer (some ⟨L, 0, none⟩)] w fun e w' => ∃ a n c, e = .returned (.slice a n c) ∧ Sat (rw 3 1 (.slice a n c) ((sortI (markedK ns)).map (Value.int .i64)) * (lruP TL TI L M cap ns * F)) w' := by
 obtain ⟨i0, E⟩ := elemInt
 have hs0 : Sat (core TL L M cap * (pmp M ns * (chain (ring L ns) * items TI ns)) * F) w := hs
 have h6 := hs0.c L 6
 obtain ⟨ms, o, hp, ho, hs1⟩ := Sat.pmp_open (hs0.take (pmp M ns))
 obtain ⟨oi, hI, hrange⟩ := run_range_mp (P := Tryz.prog) Tryz.underlying267 hs1.obj ho
 have hs2 := hs1.alloc_raw oi
 have hs3 : Sat (raw M o * (raw w.heap.size oi * (core TL L M cap * (chain (ring L ns) * items TI ns) * F))) (w.alloc oi) := hs2.eq (by ac_rfl)
 clear hs2 hs1 hs0 hs
 go_enter Tryz.func100, Tryz.ntmps100
 go_wp2
 go_loopg [3] ns.length (fun k out wr => ∃ (a : Option Addr) (ks : List Int) (c : Nat) (oi' : Obj) (rem : List (Int × Value)), out = .slice a ks.length c ∧ Aside (k = rem.length ∧ Iter ikey M o oi' ms rem ∧ MarkRel ns rem ks) ∧
  Sat (rw 3 1 (.slice a ks.length c) (ks.map (Value.int .i64)) * (raw M o * (raw w.heap.size oi' * (core TL L M cap * (chain (ring L ns) * items TI ns) * F)))) wr)
 case atStart => exact ⟨none, [], 0, oi, ms, rfl, ⟨by simpa using hp.length_eq.symm, hI, ns, hp, fun _ h => h, by simp, by simp⟩, hs3.rw_nil⟩
 case round =>
  obtain ⟨a, ks, c, oi', rem, rfl, A, hsr⟩ := hrel
  obtain ⟨hgk, hI', hR⟩ := A.out
  have hsn := hsr.eq (B := raw M o * (raw w.heap.size oi' * (rw 3 1 (.slice a ks.length c) (ks.map (Value.int .i64)) * (core TL L M cap * (chain (ring L ns) * items TI ns) * F)))) (by ac_rfl)
  clear hI hs3 hrange h6
  rcases run_next_sl (P := Tryz.prog) hsn hI' with ⟨hrem, hnext⟩ | ⟨i, k, v, oi2, w2, hi, hnext, hI2, hs4, hentry⟩
  · subst hrem
    obtain ⟨ns1, hp1, _, hp2, hl2⟩ := hR
    have hns1 : ns1 = [] := by have := hp1.length_eq; simpa using this.symm
    subst hns1
    have hks : ks.Perm (markedK ns) := by simpa [markedK] using hp2
    have hkl : ks.length < 4611686018427387904 := by simp at hl2; omega
    have hsort := sortInts_sl a ks.length c ks _ wr hsr hkl
    rw [sortI_perm hks] at hsort
    have HI : Aside (Iter ikey M o oi' ms []) := hI'
    clear hsn hI' A hp1 hp2 hl2 hks hkl hsr
    go_wp2_with (go_at_call 122; refine hsort.mono ?_; rintro e w3 ⟨rfl, hs3⟩)
    go_ret
    refine ⟨a, ks.length, c, rfl, ?_⟩
    have hs5 := Sat.pmp_shut hp HI.out.mapIs (hs3.take (raw M o))
    refine Sat.weak (B := raw w.heap.size oi') (hs5.eq ?_)
    unfold lruP
    ac_rfl
  · obtain ⟨n, hn', rfl, rfl, hkl, hR2⟩ := hR.step hi
    have c2 := lru_mark (F := rw 3 1 (.slice a ks.length c) (ks.map (Value.int .i64)) * F) hn' (hs4.eq (by ac_rfl))
    have hlt : (rem.eraseIdx i).length < rem.length := by
     have := (List.getElem?_eq_some_iff.1 hi).1
     rw [List.length_eraseIdx]; split <;> omega
    have HL : Aside ((rem.eraseIdx i).length < rem.length ∧ gk = rem.length) := ⟨hlt, hgk⟩
    have HI : Aside (Iter ikey M o oi2 ms (rem.eraseIdx i)) := hI2
    clear hsn hI' A hsr hlt hgk hI2 hi hR
    cases hm : n.mkd with
    | false =>
      rw [hm] at c2 hR2
      have HR0 : MarkRel ns (rem.eraseIdx i) ks := by simpa using hR2
      have HR : Aside (MarkRel ns (rem.eraseIdx i) ks) := HR0
      clear HR0
      clear hm hR2
      go_wp2
      go_roundg (rem.eraseIdx i).length
      case measure => have := HL.out; omega
      case rel => exact ⟨a, ks, c, oi2, _, rfl, ⟨rfl, HI.out, HR.out⟩, hs4.eq (by ac_rfl)⟩
    | true =>
      rw [hm] at c2 hR2
      have HR0 : MarkRel ns (rem.eraseIdx i) (ks ++ [n.key]) := by simpa using hR2
      have HR : Aside (MarkRel ns (rem.eraseIdx i) (ks ++ [n.key])) := HR0
      clear HR0
      clear hm hR2
      have hs5 := hs4.alloc #[.int .i64 n.key] 3
      have hs6 := hs5.take (rw 3 1 (.slice a ks.length c) (ks.map (Value.int .i64)))
      have hx := Src.one_new (P := Tryz.prog) hs5 rfl
      clear hs5
      go_wp2_with (at_builtin; refine wpl_append_same E rfl (.tmp 22) (.tmp 24) rfl rfl rfl hs6 hx (by unfold maxLen; omega) (by omega) ?_; intro a' c' w' hs7 hnil; clear hnil hs6 hx)
      go_roundg (rem.eraseIdx i).length
      case measure => have := HL.out; omega
      case rel =>
       refine ⟨a', ks ++ [n.key], c', oi2, _, by simp, ⟨rfl, HI.out, HR.out⟩, ?_⟩
       simp only [List.length_append, List.length_cons, List.length_nil, List.map_append, List.map_cons, List.map_nil, Nat.zero_add]
       refine Sat.weak (B := block w2.heap.size 3 [.int .i64 n.key]) (hs7.eq ?_)
       ac_rfl
end Go.Proofs.YtfhbmblbidcmmaaGreat
namespace Go.Proofs.YtfhbmblbidcmmaaGreat
set_option linter.unusedSimpArgs false
set_option linter.unusedVariables false
open Go.RowKit Go.Sl Go.Lru
structure It where
 key : Int
 pins : Int
 mkd : Bool
def toIt (n : Nd) : It := ⟨n.key, n.pins, n.mkd⟩
def hasI (its : List It) (k : Int) : Bool := its.any fun n => n.key == k
def outI (its : List It) (k : Int) : List It := its.filter fun n => n.key != k
def useI (its : List It) (k : Int) : List It := outI its k ++ its.filter fun n => n.key == k
def atI (f : It → It) (its : List It) (k : Int) : List It := its.map fun n => if n.key = k then f n else n
def oldI (its : List It) : Option It := its.find? fun n => n.pins == 0
def dropB (its : List It) (k : Int) : Bool := its.any fun n => n.key == k && n.pins == 0
def markedI (its : List It) : List Int := sortI ((its.filter (·.mkd)).map (·.key))
def keysI (its : List It) : List Int := its.map (·.key)
def markI (its : List It) (k : Int) (on : Bool) : List It := atI (fun n => { n with mkd := on }) its k
def lruI (L : Nat) (cap : Int) (its : List It) : Assn := ex fun x : Nat × List Nd => pur (x.2.map toIt = its) * lruP TL TI L x.1 cap x.2
theorem Sat.lru_open {L : Nat} {cap : Int} {its : List It} {F : Assn} {w : World} (hs : Sat (lruI L cap its * F) w) : ∃ M ns, ns.map toIt = its ∧ Sat (lruP TL TI L M cap ns * F) w := by
 obtain ⟨⟨M, ns⟩, h⟩ := hs.ex_open
 rw [sep_assoc] at h
 obtain ⟨h1, h3⟩ := h.pur_open
 exact ⟨M, ns, h1, h3⟩
theorem Sat.lru_shut {L M : Nat} {cap : Int} {ns : List Nd} {its : List It} {F : Assn} {w : World} (h1 : ns.map toIt = its) (hs : Sat (lruP TL TI L M cap ns * F) w) : Sat (lruI L cap its * F) w := by
 refine Sat.ex_shut (M, ns) ?_
 rw [sep_assoc]
 exact Sat.pur_shut h1 hs
theorem keys_it (ns : List Nd) : (ns.map toIt).map (·.key) = ns.map (·.key) := by simp [toIt, Function.comp_def]
theorem has_it (ns : List Nd) (k : Int) : hasI (ns.map toIt) k = hasB ns k := by simp [hasI, hasB, toIt, List.any_map, Function.comp_def]
theorem out_it (ns : List Nd) (k : Int) : (outL ns k).map toIt = outI (ns.map toIt) k := by simp [outI, outL, toIt, List.filter_map, Function.comp_def]
theorem use_it (ns : List Nd) (k : Int) : (useL ns k).map toIt = useI (ns.map toIt) k := by
 unfold useL useI
 rw [List.map_append, out_it]
 congr 1
 simp [toIt, List.filter_map, Function.comp_def]
theorem mark_it (ns : List Nd) (k : Int) (on : Bool) : (atL (fun n => { n with mkd := on }) ns k).map toIt = markI (ns.map toIt) k on := by
 unfold atL markI atI
 rw [List.map_map, List.map_map]
 apply List.map_congr_left
 intro n _
 by_cases h : n.key = k <;> simp [Function.comp, toIt, h]
theorem old_it (ns : List Nd) : oldI (ns.map toIt) = (oldL ns).map toIt := by
 unfold oldI oldL
 rw [List.find?_map]; rfl
theorem drop_it (ns : List Nd) (k : Int) : dropB (ns.map toIt) k = ns.any fun n => n.key == k && n.pins == 0 := by simp [dropB, toIt, List.any_map, Function.comp_def]
theorem marked_it (ns : List Nd) : markedI (ns.map toIt) = sortI (markedK ns) := by
 unfold markedI markedK
 congr 1
 simp [toIt, List.filter_map, Function.comp_def]
structure LruOk (its : List It) : Prop where
 nd : (keysI its).Nodup
 pins : ∀ n ∈ its, 0 ≤ n.pins
 len : its.length ≤ 4096
theorem LruOk.keyd {ns : List Nd} (h : LruOk (ns.map toIt)) : Keyd ns := by
 have := h.nd
 unfold keysI at this
 rw [keys_it] at this
 exact this
theorem LruOk.pinsN {ns : List Nd} (h : LruOk (ns.map toIt)) : ∀ n ∈ ns, 0 ≤ n.pins := fun n hn => h.pins (toIt n) (List.mem_map.2 ⟨n, hn, rfl⟩)
theorem useH (L : Nat) (cap : Int) (its : List It) (k : Int) (F : Assn) (w : World) (hs : Sat (lruI L cap its * F) w) (ok : LruOk its) :
 Calls Tryz.prog 180 #[.pointer (some ⟨L, 0, none⟩), .int .i64 k] w fun e w' => e = .returned (.bool (hasI its k)) ∧ Sat (lruI L cap (useI its k) * F) w' := by
 obtain ⟨M, ns, rfl, h⟩ := Sat.lru_open hs
 rw [has_it]
 exact (use_any L M cap ns k F w h ok.keyd).mono fun e w' ⟨h1, h2⟩ => ⟨h1, Sat.lru_shut (use_it ns k) h2⟩
theorem markH (L : Nat) (cap : Int) (its : List It) (k : Int) (on : Bool) (F : Assn) (w : World) (hs : Sat (lruI L cap its * F) w) (ok : LruOk its) :
 Calls Tryz.prog 148 #[.pointer (some ⟨L, 0, none⟩), .int .i64 k, .bool on] w fun e w' => e = .returned (.bool (hasI its k)) ∧ Sat (lruI L cap (markI its k on) * F) w' := by
 obtain ⟨M, ns, rfl, h⟩ := Sat.lru_open hs
 rw [has_it]
 exact (mark_any L M cap ns k on F w h ok.keyd).mono fun e w' ⟨h1, h2⟩ => ⟨h1, Sat.lru_shut (mark_it ns k on) h2⟩
theorem dropH (L : Nat) (cap : Int) (its : List It) (k : Int) (F : Assn) (w : World) (hs : Sat (lruI L cap its * F) w) (ok : LruOk its) :
 Calls Tryz.prog 164 #[.pointer (some ⟨L, 0, none⟩), .int .i64 k] w fun e w' => e = .returned (.bool (dropB its k)) ∧ Sat (lruI L cap (if dropB its k then outI its k else its) * F) w' := by
 obtain ⟨M, ns, rfl, h⟩ := Sat.lru_open hs
 rw [drop_it]
 refine (drop_any L M cap ns k F w h ok.keyd ok.pinsN).mono fun e w' ⟨h1, h2⟩ => ⟨h1, Sat.lru_shut ?_ h2⟩
 split
 · exact out_it ns k
 · rfl
theorem oldestH (L : Nat) (cap : Int) (its : List It) (F : Assn) (w : World) (hs : Sat (lruI L cap its * F) w) :
 Calls Tryz.prog 252 #[.pointer (some ⟨L, 0, none⟩)] w fun e w' => e = .returned (.tuple #[.int .i64 (((oldI its).map (·.key)).getD 0), .bool (oldI its).isSome]) ∧ w = w' := by
 obtain ⟨M, ns, rfl, h⟩ := Sat.lru_open hs
 have := oldest_any L M cap ns F w h
 unfold oldK oldB at this
 rw [old_it]
 simpa [toIt, Function.comp_def] using this
theorem markedH (L : Nat) (cap : Int) (its : List It) (F : Assn) (w : World) (hs : Sat (lruI L cap its * F) w) (ok : LruOk its) :
 Calls Tryz.prog 100 #[.pointer (some ⟨L, 0, none⟩)] w fun e w' => ∃ a n c, e = .returned (.slice a n c) ∧ Sat (rw 3 1 (.slice a n c) ((markedI its).map (Value.int .i64)) * (lruI L cap its * F)) w' := by
 obtain ⟨M, ns, rfl, h⟩ := Sat.lru_open hs
 rw [marked_it]
 refine (marked_any L M cap ns F w h (by have := ok.len; simpa using this)).mono ?_
 rintro e w' ⟨a, n, c, rfl, h2⟩
 refine ⟨a, n, c, rfl, ?_⟩
 have h3 := Sat.lru_shut (its := ns.map toIt) rfl (h2.eq (sep_left _ _ _))
 exact h3.eq (sep_left _ _ _)
theorem addH (L : Nat) (cap : Int) (its : List It) (k : Int) (F : Assn) (w : World) (hs : Sat (lruI L cap its * F) w) (ok : LruOk its) (hk : hasI its k = false) (hc : (its.length : Int) ≠ cap) :
 Calls Tryz.prog 230 #[.pointer (some ⟨L, 0, none⟩), .int .i64 k] w fun e w' => e = .returned (.tuple #[.int .i64 0, .bool false, .int .i64 0]) ∧ Sat (lruI L cap (its ++ [⟨k, 0, false⟩]) * F) w' := by
 obtain ⟨M, ns, rfl, h⟩ := Sat.lru_open hs
 rw [has_it] at hk
 rw [List.length_map] at hc
 refine (add_any L M cap ns k F w h ok.keyd).mono ?_
 rintro e w' ⟨g, hh, c, ns', rfl, h1, h2⟩
 rcases h1 with ⟨a1, _⟩ | ⟨_, _, rfl, rfl, rfl, b, rfl⟩ | ⟨_, a2, _⟩ | ⟨_, a2, _⟩
 · rw [hk] at a1; cases a1
 · exact ⟨rfl, Sat.lru_shut (by simp [toIt]) h2⟩
 · exact absurd a2 hc
 · exact absurd a2 hc
end Go.Proofs.YtfhbmblbidcmmaaGreat
