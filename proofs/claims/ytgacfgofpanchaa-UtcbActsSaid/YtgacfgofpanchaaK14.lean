/- The contract of Put for messages of few words and items. Condition: the words and items are read. -/
import Derived.Test.YtgacfgofpanchaaProg
import Derived.Test.YtgacfgofpanchaaK13
import Derived.WalkKit
import Derived.WalkLawsBesides
import Derived.WalkSpells
import Derived.Deep.QuietTactic
import Derived.BigQuiet
import Derived.Deep.RegionHeld3
import Derived.Deep.RegionLaw
import Derived.Outline
import Derived.Lib.LazyBuf
import Derived.Deep.WholeRow
namespace Go.Proofs.Ytgacfgofpanchaa
open Go.RowKit

/-- the state of Put behind its loop -/
structure PutS (W w : World) (bp ga gb N a : Nat) (f : Nat → Nat) (bl : Nat) (L : List Nat) : Prop where
  pb : PB w bp ga gb N a f
  way : W.grownBy w (some gb)
  box : w.heap[bl]? = some (.cells (u64s L).toArray 77 (0, 0))
theorem PutS.below {W w w' : World} {bp ga gb N a bl : Nat} {f : Nat → Nat} {L : List Nat} (h : PutS W w bp ga gb N a f bl L) (hb : Below w.heap.size w w') : PutS W w' bp ga gb N a f bl L := ⟨h.pb.below hb, gb_trans h.way (below_gb hb), (hb.block bl (blt h.box)).trans h.box⟩
theorem PutS.drew {W w : World} {bp ga gb N a bl : Nat} {f : Nat → Nat} {L : List Nat} (h : PutS W w bp ga gb N a f bl L) : PutS W w.drew bp ga gb N a f bl L := h.below (Below.refl _ _).drew
theorem PutS.alloc {W w : World} {bp ga gb N a bl : Nat} {f : Nat → Nat} {L : List Nat} (h : PutS W w bp ga gb N a f bl L) (o : Obj) : PutS W (w.alloc o) bp ga gb N a f bl L := h.below ((Below.refl _ _).alloc (Nat.le_refl _) _)
theorem PutS.set {W w w' : World} {bp ga gb N a bl : Nat} {f g : Nat → Nat} {L : List Nat} (hne : bl ≠ gb) (h : PutS W w bp ga gb N a f bl L) (hp : PB w' bp ga gb N a g) (hg : w.grownBy w' (some gb)) : PutS W w' bp ga gb N a g bl L :=
  ⟨hp, gb_trans h.way hg, (hg.block bl (blt h.box) (fun e => hne (by injection e))).trans h.box⟩
theorem PutS.c0 {W w : World} {bp ga gb N a bl : Nat} {f : Nat → Nat} {L : List Nat} (h : PutS W w bp ga gb N a f bl L) : w.cell? ⟨bp, 0, none⟩ = some (.pointer (some ⟨ga, 0, none⟩)) := h.pb.bk.c0
theorem pstore_row {W w : World} {bp ga gb N a bl : Nat} {f : Nat → Nat} (L : List Nat) (q : Nat) (p : Int) (hp : ((a + 8 * q : Nat) : Int) = p) (m : Nat) (hm : L.length = m) (hq : q + m ≤ 32) (hne : bl ≠ gb) (hl : ∀ x ∈ L, x < 18446744073709551616) (h : PutS W w bp ga gb N a f bl L) :
    Calls Try.prog 28 #[.pointer (some ⟨ga, 0, none⟩), .int .i64 p, .slice (some ⟨bl, 0, none⟩) m m] w fun e w' => e = .returned (.int .i64 0) ∧ PutS W w' bp ga gb N a (storeF f (a + 8 * q) L (m * 8)) bl L := by
  have hA : SlR w (some ⟨bl, 0, none⟩) (u64s L) := fun _ => ⟨bl, 0, rfl, blt h.box, fun j u hu => by
    rw [cell_of_row w bl (0 + j) _ _ _ h.box]
    rw [Nat.zero_add]
    simpa using hu⟩
  exact (pstore q p hp.symm L m hm hq _ m hA (fun a ha => by cases ha; exact hne) hl h.pb).mono fun e w' s => ⟨s.1, PutS.set hne h s.2.1 s.2.2⟩
theorem head_or (n k : Nat) (hn : n ≤ 8) (hk : k ≤ 2) : bits .or .i64 (n : Int) ((k : Int) * 16) = ((n + 16 * k : Nat) : Int) := by
  rw [show (k : Int) * 16 = ((16 * k : Nat) : Int) by omega, i64_or_nat _ _ (by omega) (by omega), or_join 4 _ _ (by omega) (by omega)]
theorem ten_lt (l cs : List Nat) (hl : ∀ x ∈ l, x < 18446744073709551616) (hc : ∀ x ∈ cs, x < 18446744073709551616) : ∀ x ∈ ten l cs, x < 18446744073709551616 := by
  intro x hx
  simp only [ten, List.mem_map, List.mem_range] at hx
  obtain ⟨j, hj, rfl⟩ := hx
  split
  · by_cases q : j < l.length
    · rw [getD_lt q]; exact hl _ (List.getElem_mem q)
    · simp [List.getD, q]
  · by_cases q : j - 8 < cs.length
    · rw [getD_lt q]; exact hc _ (List.getElem_mem q)
    · simp [List.getD, q]
theorem u64s_get (L : List Nat) (j : Nat) (hj : j < L.length) : (u64s L).toArray[j]? = some (.int .u64 ((L[j] : Nat) : Int)) := by simp [u64s, hj]

/-- an item's Code, whether it may be or not -/
theorem code_any (i : Itm) (w : World) : Calls Try.prog 11 #[.agg #[.int .i64 i.base, .int .i64 i.order, .int .i64 i.rights, .int .i64 i.off, .bool i.grant]] w fun e w' => e = .returned (.tuple #[.int .u64 ((if mayI i = true then codeI i else 0 : Nat) : Int), .bool (mayI i)]) ∧ Below w.heap.size w w' := by
  cases h : mayI i
  · exact (code_no i w h).mono fun e w' q => ⟨by rw [q.1, if_neg (by decide)]; rfl, q.2⟩
  · exact (code_yes i w h).mono fun e w' q => ⟨by rw [q.1, if_pos rfl], q.2⟩

set_option maxRecDepth 100000 in
set_option maxHeartbeats 3200000 in
theorem put_short (W : World) (bp ga gb N a : Nat) (f : Nat → Nat) (m : Msg) (A B : Option Addr) (n c k d : Nat) (hn : m.words.length = n) (hk : m.items.length = k) (h8 : n ≤ 8) (h2 : k ≤ 2) (hA : SlR W A (u64s m.words)) (hB : SlR W B (itemCells m.items)) (hlw : ∀ x ∈ m.words, x < 18446744073709551616) (hlb : m.label < 18446744073709551616) (h : PB W bp ga gb N a f) :
    Calls Try.prog 17 #[.pointer (some ⟨bp, 0, none⟩), .int .u64 (m.label : Int), .slice A n c, .slice B k d] W (PutPost W bp ga gb N a f m) := by
  have t8 : decide ((8 : Int) < (n : Int)) = false := decide_eq_false (by omega)
  have t2 : decide ((2 : Int) < (k : Int)) = false := decide_eq_false (by omega)
  have i8 : (n : Int) ≤ 8 := by omega
  have i2 : (k : Int) ≤ 2 := by omega
  have HN := Lib.hid hn
  have HK := Lib.hid hk
  have HA := Lib.hid hA
  have HB := Lib.hid hB
  have HW := Lib.hid hlw
  have HL := Lib.hid hlb
  have HP := Lib.hid h
  have K0 : Hid ((W.alloc (.cells #[.int .u64 0, .int .u64 0, .int .u64 0, .int .u64 0, .int .u64 0, .int .u64 0, .int .u64 0, .int .u64 0, .int .u64 0, .int .u64 0] 77)).heap[W.heap.size]? = some (.cells (u64s (ten [] [])).toArray 77 (0, 0))) := Lib.hid (heap_alloc_new W _)
  have B0 : Hid (Below W.heap.size W (W.alloc (.cells #[.int .u64 0, .int .u64 0, .int .u64 0, .int .u64 0, .int .u64 0, .int .u64 0, .int .u64 0, .int .u64 0, .int .u64 0, .int .u64 0] 77))) := Lib.hid ((Below.refl _ _).alloc (Nat.le_refl _) _)
  clear hn hk hA hB hlw hlb h h8 h2
  go_enter Try.func17, Try.ntmps17
  go_wp2_with fail
  obtain ⟨w2, hrun, hbox, hg⟩ := run_copy10 3 K0.out m.words n HN.out (by omega) A c (HA.out.below B0.out)
  have B2 : Hid (Below W.heap.size W w2) := Lib.hid (B0.out.trans ((grownBy_below hg (Nat.le_refl _) B0.out.size)))
  have K2 : Hid (w2.heap[W.heap.size]? = some (.cells (u64s (ten m.words ((m.items.take 0).map codeI))).toArray 77 (0, 0))) := Lib.hid hbox
  rw [hrun]
  clear hrun hbox hg K0 B0
  go_wp2_with fail
  go_loopw [31] (fun i wr => ∃ q : Nat, q ≤ k ∧ i = .int .i64 q ∧ (∀ j (hj : j < m.items.length), j < q → mayI m.items[j] = true) ∧ Below W.heap.size W wr ∧ wr.heap[W.heap.size]? = some (.cells (u64s (ten m.words ((m.items.take q).map codeI))).toArray 77 (0, 0))) (fun i _ => k - (intOf i).toNat)
  case atStart => exact ⟨0, Nat.zero_le _, rfl, fun j _ hj => absurd hj (Nat.not_lt_zero j), B2.out, K2.out⟩
  case round =>
    obtain ⟨q, hq, rfl, hok, hbr, hkr⟩ := hrel
    have Hok := Lib.hid hok
    have Bw := Lib.hid hbr
    have Kw := Lib.hid hkr
    clear hok hbr hkr B2 K2
    by_cases hlt : q < k
    · have hql : q < m.items.length := by rw [HK.out]; exact hlt
      obtain ⟨b, off, rfl, _, hc⟩ := (HB.out.below Bw.out).item hql
      have hq2 : (q : Int) < 2 := by omega
      have hqk : (q : Int) < (k : Int) := by omega
      have hq0 : (0 : Int) ≤ (q : Int) := by omega
      obtain ⟨it, hit⟩ : ∃ it, m.items[q] = it := ⟨_, rfl⟩
      rw [hit] at hc
      obtain ⟨c0, c1, c2, c3, c4⟩ := hc
      have B3 : Hid (Below W.heap.size W (wr.alloc (.cells #[.int .i64 it.base, .int .i64 it.order, .int .i64 it.rights, .int .i64 it.off, .bool it.grant] 24))) := Lib.hid (Bw.out.alloc Bw.out.size _)
      have K3 : Hid ((wr.alloc (.cells #[.int .i64 it.base, .int .i64 it.order, .int .i64 it.rights, .int .i64 it.off, .bool it.grant] 24)).heap[W.heap.size]? = some (.cells (u64s (ten m.words ((m.items.take q).map codeI))).toArray 77 (0, 0))) := Lib.hid ((Below.heap_alloc _ _ _ (blt Kw.out)).trans Kw.out)
      by_cases hm : mayI it = true
      · have T : Hid ((m.items.take (q + 1)).map codeI = (m.items.take q).map codeI ++ [codeI it]) := Lib.hid (by rw [List.take_succ_eq_append_getElem hql, hit]; simp)
        have HT := Lib.hid hit
        have HM := Lib.hid hm
        clear hit hm
        go_wp2_with fail
        refine (code_yes it _ HM.out).mono ?_
        rintro e w4 ⟨rfl, hb4⟩
        have K4 : Hid (w4.heap[W.heap.size]? = some (.cells (u64s (ten m.words ((m.items.take q).map codeI))).toArray 77 (0, 0))) := Lib.hid ((hb4.block _ (blt K3.out)).trans K3.out)
        have B4 : Hid (Below W.heap.size W w4) := Lib.hid (B3.out.trans (hb4.mono B3.out.size))
        have v := cell_of_row w4 W.heap.size (8 + q) _ _ _ K4.out
        rw [u64s_get _ (8 + q) (by rw [ten_length]; omega)] at v
        have hf := frozen_of_row w4 W.heap.size (8 + q) _ _ K4.out
        obtain ⟨z, hz⟩ : ∃ z, (ten m.words ((m.items.take q).map codeI))[8 + q]'(by rw [ten_length]; omega) = z := ⟨_, rfl⟩
        rw [hz] at v
        clear hb4 hz c0 c1 c2 c3 c4 B3 K3 Bw Kw
        go_wp2_with fail
        refine ⟨⟨q + 1, by omega, by go_num, ?_, setAt B4.out (Nat.le_refl _) _, ?_⟩, by simp [intOf]; omega⟩
        · intro j hj hjq
          by_cases e : j = q
          · subst e; rw [HT.out]; exact HM.out
          · exact Hok.out j hj (by omega)
        · rw [heap_setCell_same w4 W.heap.size (8 + q) _ _ _ K4.out, T.out]
          have := ten_set m.words ((m.items.take q).map codeI) q (codeI it) (by omega) (by rw [List.length_map, List.length_take]; omega)
          rw [this]
      · have hm' : mayI it = false := by simpa using hm
        have HM := Lib.hid hm'
        have HPO : Hid (putOk m = false) := Lib.hid (putOk_no3 hql (by rw [hit]; exact hm'))
        clear hit hm hm'
        go_wp2_with fail
        refine (code_no it _ HM.out).mono ?_
        rintro e w4 ⟨rfl, hb4⟩
        have B4 : Hid (Below W.heap.size W w4) := Lib.hid (B3.out.trans (hb4.mono B3.out.size))
        clear hb4 c0 c1 c2 c3 c4 B3 K3 Bw Kw
        go_wp2_with fail
        go_ret
        exact PutPost.no HP.out HPO.out B4.out
    · have hqk : q = k := by omega
      subst hqk
      have T : Hid (m.items.take q = m.items) := Lib.hid (List.take_of_length_le (by have := HK.out; omega))
      have hS : PutS W wr bp ga gb N a f W.heap.size (ten m.words (m.items.map codeI)) := ⟨HP.out.below Bw.out, below_gb Bw.out, by have := Kw.out; rw [T.out] at this; exact this⟩
      have HPO : Hid (putOk m = true) := Lib.hid ((putOk_iff m).2 ⟨by have := HN.out; omega, by have := HK.out; omega, fun i hi => by
        obtain ⟨j, hj, rfl⟩ := List.getElem_of_mem hi
        exact Hok.out j hj (by have := HK.out; omega)⟩)
      have hSd := hS.drew
      have hne : W.heap.size ≠ gb := by have := HP.out.lt; omega
      obtain ⟨p0, hp0⟩ : ∃ p : Int, ((a + 8 * 0 : Nat) : Int) = p := ⟨_, rfl⟩
      obtain ⟨p3, hp3⟩ : ∃ p : Int, ((a + 8 * 3 : Nat) : Int) = p := ⟨_, rfl⟩
      have HP0 := Lib.hid hp0
      have HP3 := Lib.hid hp3
      have hor := head_or n q (by omega) (by omega)
      obtain ⟨X, hX⟩ : ∃ X, X = n + 16 * q := ⟨_, rfl⟩
      rw [← hX] at hor
      have HX := Lib.hid hX
      have HX2 : Hid (∀ x ∈ [X, m.label], x < 18446744073709551616) := Lib.hid (fun x hx => by
        rcases List.mem_cons.1 hx with h | h
        · omega
        · rw [List.mem_singleton.1 h]; exact HL.out)
      have HT2 : Hid (∀ x ∈ ten m.words (m.items.map codeI), x < 18446744073709551616) := Lib.hid (ten_lt _ _ HW.out (fun x hx => by
        obtain ⟨i, hi, rfl⟩ := List.mem_map.1 hx
        have := codeI_lt i (((putOk_iff m).1 HPO.out).2.2 i hi)
        omega))
      have s1 : IntKind.i64.wrap ((q : Int) * 16) = (q : Int) * 16 := by rw [IntKind.wrap_i64]; omega
      have s2 : IntKind.u64.wrap (X : Int) = (X : Int) := by rw [IntKind.wrap_u64]; omega
      have x1 : (X : Int) ≤ 40 := by omega
      have j1 : ¬ (q : Int) < (q : Int) := by omega
      clear hp0 hp3 hX hlt hq
      go_wp2_with fail
      go_region_held3 (fun w' => w'.cell? ⟨bp, 0, none⟩ = some (.pointer (some ⟨ga, 0, none⟩))) (first | (with_reducible exact PutS.c0 (by assumption)) | (with_reducible exact PutS.c0 (PutS.alloc (by assumption) _)) | (with_reducible exact PutS.c0 (PutS.drew (PutS.alloc hS _)))) (first | (go_at_call 36; (with_reducible refine (pword 0 0 (by omega) rfl p0 HP0.out (PutS.pb (by first | assumption | (with_reducible exact PutS.alloc (by assumption) _) | (with_reducible exact PutS.drew (PutS.alloc hS _))))).mono ?_); rintro e w4 ⟨rfl, rfl⟩) | (go_at_call 28; (with_reducible refine (pstore_new #[.int .u64 (X : Int), .int .u64 (m.label : Int)] 0 p0 HP0.out [X, m.label] 2 rfl (by omega) _ rfl HX2.out (PutS.pb (by assumption))).mono ?_); rintro e w5 ⟨rfl, h5, g5⟩; have h5S := PutS.set hne (by assumption) h5 g5) | (go_at_call 28; (with_reducible refine (pstore_newd #[.int .u64 (X : Int), .int .u64 (m.label : Int)] 0 p0 HP0.out [X, m.label] 2 rfl (by omega) _ rfl HX2.out (PutS.pb (by assumption))).mono ?_); rintro e w5 ⟨rfl, h5, g5⟩; have h5S := PutS.set hne (by assumption) h5 g5))
      all_goals
        clear hS hSd h5 g5
        have hS := h5S
        have hSd := h5S.drew
        clear h5S
        go_wp2_with fail
        go_region_held3 (fun w' => w'.cell? ⟨bp, 0, none⟩ = some (.pointer (some ⟨ga, 0, none⟩))) (first | (with_reducible exact PutS.c0 (by assumption)) | (with_reducible exact PutS.c0 (PutS.alloc (by assumption) _)) | (with_reducible exact PutS.c0 (PutS.drew (PutS.alloc hS _)))) (first | (go_at_call 36; (with_reducible refine (pword 3 3 (by omega) rfl p3 HP3.out (PutS.pb (by assumption))).mono ?_); rintro e w6 ⟨rfl, rfl⟩) | (go_at_call 28; (with_reducible refine (pstore_row (ten m.words (m.items.map codeI)) 3 p3 HP3.out 10 (ten_length _ _) (by omega) hne HT2.out (by assumption)).mono ?_); rintro e w7 ⟨rfl, h7⟩))
        go_wp2
        go_ret
        refine PutPost.yes HPO.out ?_ h7.way
        have hp := h7.pb
        rw [HX.out, ← HN.out, ← HK.out] at hp
        exact hp
theorem put_any (W : World) (bp ga gb N a : Nat) (f : Nat → Nat) (m : Msg) (A B : Option Addr) (n c k d : Nat) (hn : m.words.length = n) (hk : m.items.length = k) (n63 : n ≤ 9223372036854775807) (hA : SlR W A (u64s m.words)) (hB : SlR W B (itemCells m.items)) (hlw : ∀ x ∈ m.words, x < 18446744073709551616) (hlb : m.label < 18446744073709551616) (h : PB W bp ga gb N a f) :
    Calls Try.prog 17 #[.pointer (some ⟨bp, 0, none⟩), .int .u64 (m.label : Int), .slice A n c, .slice B k d] W (PutPost W bp ga gb N a f m) := by
  by_cases h1 : n ≤ 8 ∧ k ≤ 2
  · exact put_short W bp ga gb N a f m A B n c k d hn hk h1.1 h1.2 hA hB hlw hlb h
  · exact put_long W bp ga gb N a f m A B n c k d hn hk (by omega) n63 h
end Go.Proofs.Ytgacfgofpanchaa
