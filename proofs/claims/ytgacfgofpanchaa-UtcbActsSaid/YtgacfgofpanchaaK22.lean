/- The contract of the reference's Put. Condition: the words and items are read, and lie elsewhere. -/
import Derived.Test.YtgacfgofpanchaaProg
import Derived.Test.YtgacfgofpanchaaK21
import Derived.WalkKit
import Derived.WalkLawsBesides
import Derived.WalkSpells
import Derived.Deep.QuietTactic
import Derived.BigQuiet
import Derived.Deep.RegionHeld3
import Derived.Deep.RegionLaw
import Derived.Outline
import Derived.Lib.LazyBuf
import Derived.Deep.WholeRow
namespace Go.Proofs.Ytgacfgofpanchaa
open Go.RowKit


theorem setG_setG (G : Nat → Nat) (i a b : Nat) : setG (setG G i a) i b = setG G i b := by
  funext j
  unfold setG
  split <;> rfl
theorem getD_ge {l : List Nat} {i : Nat} (h : l.length ≤ i) : l.getD i 0 = 0 := by simp [List.getD, List.getElem?_eq_none h]
/-- so many of the words are put -/
def putW (G : Nat → Nat) (o : Nat) (l : List Nat) : Nat → Nat → Nat
  | 0 => G
  | i + 1 => setG (putW G o l i) (o + (3 + i)) (l.getD i 0)
def rPutY (G : Nat → Nat) (o : Nat) (m : Msg) : Nat → Nat := setG (setG (putW (setG (setG G o (m.words.length + 16 * m.items.length)) (o + 1) m.label) o m.words 8) (o + 11) ((m.items.map codeI).getD 0 0)) (o + 12) ((m.items.map codeI).getD 1 0)
def rPutG (G : Nat → Nat) (o : Nat) (m : Msg) : Nat → Nat := if putOk m = true then rPutY G o m else G
theorem putW_at (G : Nat → Nat) (o : Nat) (l : List Nat) (j : Nat) : ∀ k, putW G o l k j = if o + 3 ≤ j ∧ j < o + 3 + k then l.getD (j - o - 3) 0 else G j
  | 0 => by rw [if_neg (by omega)]; rfl
  | k + 1 => by
    show setG (putW G o l k) (o + (3 + k)) (l.getD k 0) j = _
    unfold setG
    by_cases e : j = o + (3 + k)
    · rw [if_pos e, if_pos (by omega), show j - o - 3 = k by omega]
    · rw [if_neg e, putW_at G o l j k]
      by_cases h : o + 3 ≤ j ∧ j < o + 3 + k
      · rw [if_pos h, if_pos (by omega)]
      · rw [if_neg h, if_neg (by omega)]
theorem rPutY_in (G : Nat → Nat) (o : Nat) (m : Msg) (i : Nat) : rPutY G o m (o + i) = putG m (vw G o) i := by
  unfold rPutY putG setG
  by_cases e12 : i = 12
  · subst e12
    rw [if_pos rfl, if_neg (by omega), if_neg (by omega), if_pos (by omega)]
    exact (ten_hi _ _ 1 (by omega)).symm
  rw [if_neg (by omega)]
  by_cases e11 : i = 11
  · subst e11
    rw [if_pos rfl, if_neg (by omega), if_neg (by omega), if_pos (by omega)]
    exact (ten_hi _ _ 0 (by omega)).symm
  rw [if_neg (by omega), putW_at]
  by_cases h3 : 3 ≤ i ∧ i < 11
  · rw [if_pos (by omega), if_neg (by omega), if_neg (by omega), if_pos (by omega), ten_lo _ _ _ (by omega), show o + i - o - 3 = i - 3 by omega]
  · rw [if_neg (by omega)]
    by_cases e1 : i = 1
    · subst e1; rw [if_pos rfl, if_neg (by omega), if_pos rfl]
    rw [if_neg (by omega)]
    by_cases e0 : i = 0
    · subst e0; rw [if_pos (by omega), if_pos rfl]
    rw [if_neg (by omega), if_neg e0, if_neg e1, if_neg (by omega)]
    rfl
theorem rPutY_out (G : Nat → Nat) (o : Nat) (m : Msg) (j : Nat) (h : j < o ∨ o + 32 ≤ j) : rPutY G o m j = G j := by
  unfold rPutY setG
  rw [if_neg (by omega), if_neg (by omega), putW_at, if_neg (by omega), if_neg (by omega), if_neg (by omega)]
/-- two words -/
def twoL (cs : List Nat) : List Nat := [cs.getD 0 0, cs.getD 1 0]
theorem twoL_set (cs : List Nat) (q c : Nat) (hq : q < 2) (hc : cs.length = q) : (u64s (twoL cs)).toArray.setIfInBounds q (.int .u64 (c : Int)) = (u64s (twoL (cs ++ [c]))).toArray := by
  match q, cs, hc with
  | 0, [], _ => simp [twoL, u64s]
  | 1, [a], _ => simp [twoL, u64s]
  | q + 2, _, _ => omega
theorem twoL_get (cs : List Nat) (q : Nat) (hq : q < 2) : (u64s (twoL cs)).toArray[q]? = some (.int .u64 ((cs.getD q 0 : Nat) : Int)) := by
  match q with
  | 0 => simp [twoL, u64s]
  | 1 => simp [twoL, u64s]
  | q + 2 => omega
/-- what the second loop keeps -/
structure RPS (W w : World) (g : Nat) (G : Nat → Nat) (bl : Nat) (L : List Nat) : Prop where
  q : QAt w g G
  way : W.grownBy w (some g)
  box : w.heap[bl]? = some (.cells (u64s L).toArray 87 (0, 0))
theorem RPS.set {W w : World} {g : Nat} {G : Nat → Nat} {bl : Nat} {L : List Nat} (h : RPS W w g G bl L) (hne : bl ≠ g) (i v : Nat) (hi : i < 64) (hv : v < 18446744073709551616) : RPS W (w.setCell ⟨g, i, none⟩ (.int .u64 ((v : Nat) : Int))) g (setG G i v) bl L :=
  ⟨h.q.set i v hi hv, gb_set h.way i _, (Below.heap_setCell w _ _ _ (by simpa using hne)).trans h.box⟩
theorem RPS.drew {W w : World} {g : Nat} {G : Nat → Nat} {bl : Nat} {L : List Nat} (h : RPS W w g G bl L) : RPS W w.drew g G bl L := ⟨h.q.drew, gb_trans h.way (gb_drew _ _), h.box⟩
set_option maxRecDepth 100000 in
theorem rput_long (W : World) (p : Option Addr) (m : Msg) (lb : Int) (A B : Option Addr) (n c k d : Nat) (hn : m.words.length = n) (hk : m.items.length = k) (hl : 8 < n ∨ 2 < k) :
    Calls Try.prog 25 #[.pointer p, .int .u64 lb, .slice A n c, .slice B k d] W fun e w' => e = .returned (.int .i64 1) ∧ w' = W := by
  by_cases h8 : 8 < n
  · have t8 : decide ((8 : Int) < (n : Int)) = true := decide_eq_true (by omega)
    clear hn hk hl h8
    go_enter Try.func25, Try.ntmps25
    go_wp2
    go_ret
    exact ⟨rfl, rfl⟩
  · have t8 : decide ((8 : Int) < (n : Int)) = false := decide_eq_false (by omega)
    have t2 : decide ((2 : Int) < (k : Int)) = true := decide_eq_true (by omega)
    clear hn hk hl h8
    go_enter Try.func25, Try.ntmps25
    go_wp2
    go_ret
    exact ⟨rfl, rfl⟩
set_option maxRecDepth 100000 in
set_option maxHeartbeats 3200000 in
theorem rput_short (W : World) (g o : Nat) (G : Nat → Nat) (m : Msg) (A B : Option Addr) (n c k d : Nat) (hn : m.words.length = n) (hk : m.items.length = k) (h8 : n ≤ 8) (h2 : k ≤ 2) (hA : SlK g W A (u64s m.words)) (hB : SlR W B (itemCells m.items)) (hlw : ∀ x ∈ m.words, x < 18446744073709551616) (hlb : m.label < 18446744073709551616) (ho : o + 32 ≤ 64) (h : QAt W g G) :
    Calls Try.prog 25 #[.pointer (some ⟨g, o, none⟩), .int .u64 (m.label : Int), .slice A n c, .slice B k d] W fun e w' => e = .returned (.int .i64 (putE m)) ∧ QAt w' g (rPutG G o m) ∧ W.grownBy w' (some g) := by
  have t8 : decide ((8 : Int) < (n : Int)) = false := decide_eq_false (by omega)
  have t2 : decide ((2 : Int) < (k : Int)) = false := decide_eq_false (by omega)
  have i8 : (n : Int) ≤ 8 := by omega
  have i2 : (k : Int) ≤ 2 := by omega
  have HN := Lib.hid hn
  have HK := Lib.hid hk
  have HA := Lib.hid hA
  have HB := Lib.hid hB
  have HW := Lib.hid hlw
  have HL := Lib.hid hlb
  have HQ := Lib.hid h
  obtain ⟨er, her⟩ : ∃ er, er = putE m := ⟨_, rfl⟩
  have HE := Lib.hid her
  rw [← her]
  have K0 : Hid ((W.alloc (.cells #[.int .u64 0, .int .u64 0] 87)).heap[W.heap.size]? = some (.cells (u64s (twoL [])).toArray 87 (0, 0))) := Lib.hid (heap_alloc_new W _)
  have B0 : Hid (Below W.heap.size W (W.alloc (.cells #[.int .u64 0, .int .u64 0] 87))) := Lib.hid ((Below.refl _ _).alloc (Nat.le_refl _) _)
  clear hn hk hA hB hlw hlb h h8 h2 her
  go_enter Try.func25, Try.ntmps25
  go_wp2_with fail
  go_loopw [10] (fun i wr => ∃ q : Nat, q ≤ k ∧ i = .int .i64 q ∧ (∀ j (hj : j < m.items.length), j < q → mayI m.items[j] = true) ∧ Below W.heap.size W wr ∧ wr.heap[W.heap.size]? = some (.cells (u64s (twoL ((m.items.take q).map codeI))).toArray 87 (0, 0))) (fun i _ => k - (intOf i).toNat)
  case atStart => exact ⟨0, Nat.zero_le _, rfl, fun j _ hj => absurd hj (Nat.not_lt_zero j), B0.out, K0.out⟩
  case round =>
    obtain ⟨q, hq, rfl, hok, hbr, hkr⟩ := hrel
    have Hok := Lib.hid hok
    have Bw := Lib.hid hbr
    have Kw := Lib.hid hkr
    clear hok hbr hkr B0 K0
    by_cases hlt : q < k
    · have hql : q < m.items.length := by rw [HK.out]; exact hlt
      obtain ⟨b, off, rfl, _, hc⟩ := (HB.out.below Bw.out).item hql
      have hq2 : (q : Int) < 2 := by omega
      have hqk : (q : Int) < (k : Int) := by omega
      have hq0 : (0 : Int) ≤ (q : Int) := by omega
      obtain ⟨it, hit⟩ : ∃ it, m.items[q] = it := ⟨_, rfl⟩
      rw [hit] at hc
      obtain ⟨c0, c1, c2, c3, c4⟩ := hc
      by_cases hm : mayI it = true
      · have T : Hid ((m.items.take (q + 1)).map codeI = (m.items.take q).map codeI ++ [codeI it]) := Lib.hid (by rw [List.take_succ_eq_append_getElem hql, hit]; simp)
        have HT := Lib.hid hit
        have HM := Lib.hid hm
        clear hit hm
        go_wp2_with fail
        refine (Code14_yes it HM.out _).mono ?_
        rintro e w4 ⟨rfl, hb4⟩
        have K4 : Hid (w4.heap[W.heap.size]? = some (.cells (u64s (twoL ((m.items.take q).map codeI))).toArray 87 (0, 0))) := Lib.hid ((hb4.block _ (blt Kw.out)).trans Kw.out)
        have B4 : Hid (Below W.heap.size W w4) := Lib.hid (Bw.out.trans (hb4.mono Bw.out.size))
        have v := cell_of_row w4 W.heap.size q _ _ _ K4.out
        rw [twoL_get _ q (by omega)] at v
        have hf := frozen_of_row w4 W.heap.size q _ _ K4.out
        obtain ⟨z, hz⟩ : ∃ z, ((m.items.take q).map codeI).getD q 0 = z := ⟨_, rfl⟩
        rw [hz] at v
        clear hb4 hz c0 c1 c2 c3 c4 Bw Kw
        go_wp2_with fail
        refine ⟨⟨q + 1, by omega, by go_num, ?_, setAt B4.out (Nat.le_refl _) _, ?_⟩, by simp [intOf]; omega⟩
        · intro j hj hjq
          by_cases e : j = q
          · subst e; rw [HT.out]; exact HM.out
          · exact Hok.out j hj (by omega)
        · rw [heap_setCell_same w4 W.heap.size q _ _ _ K4.out, T.out]
          have := twoL_set ((m.items.take q).map codeI) q (codeI it) (by omega) (by rw [List.length_map, List.length_take]; omega)
          rw [this]
      · have hm' : mayI it = false := by simpa using hm
        have HM := Lib.hid hm'
        have HPO : Hid (putOk m = false) := Lib.hid (putOk_no3 hql (by rw [hit]; exact hm'))
        clear hit hm hm'
        go_wp2_with fail
        refine (Code14_no it HM.out _).mono ?_
        rintro e w4 ⟨rfl, hb4⟩
        have B4 : Hid (Below W.heap.size W w4) := Lib.hid (Bw.out.trans (hb4.mono Bw.out.size))
        clear hb4 c0 c1 c2 c3 c4 Bw Kw
        go_wp2_with fail
        go_ret
        refine ⟨?_, ?_, below_gb B4.out⟩
        · rw [HE.out]; unfold putE; rw [HPO.out]; rfl
        · unfold rPutG; rw [HPO.out]; exact HQ.out.below B4.out
    · have hqk : q = k := by omega
      subst hqk
      have T : Hid (m.items.take q = m.items) := Lib.hid (List.take_of_length_le (by have := HK.out; omega))
      have HPO : Hid (putOk m = true) := Lib.hid ((putOk_iff m).2 ⟨by have := HN.out; omega, by have := HK.out; omega, fun i hi => by
        obtain ⟨j, hj, rfl⟩ := List.getElem_of_mem hi
        exact Hok.out j hj (by have := HK.out; omega)⟩)
      have hne : W.heap.size ≠ g := by have := HQ.out.lt; omega
      have Hne := Lib.hid hne
      have hS : RPS W wr g G W.heap.size (twoL (m.items.map codeI)) := ⟨HQ.out.below Bw.out, below_gb Bw.out, by have := Kw.out; rw [T.out] at this; exact this⟩
      obtain ⟨X, hX⟩ : ∃ X, X = n + 16 * q := ⟨_, rfl⟩
      have hor : (n : Int) + 16 * (q : Int) = (X : Int) := by omega
      have HX := Lib.hid hX
      have s0 : IntKind.i64.wrap (16 * (q : Int)) = 16 * (q : Int) := by rw [IntKind.wrap_i64]; omega
      have s1 : IntKind.i64.wrap (X : Int) = (X : Int) := by rw [IntKind.wrap_i64]; omega
      have s2 : IntKind.u64.wrap (X : Int) = (X : Int) := by rw [IntKind.wrap_u64]; omega
      have x1 : (X : Int) ≤ 40 := by omega
      have hS1 := hS.set hne o X (by omega) (by omega)
      have hS2 : Hid (RPS W ((wr.setCell ⟨g, o, none⟩ (.int .u64 (X : Int))).setCell ⟨g, o + 1, none⟩ (.int .u64 (m.label : Int))) g (setG (setG G o X) (o + 1) m.label) W.heap.size (twoL (m.items.map codeI))) := Lib.hid (hS1.set hne (o + 1) m.label (by omega) HL.out)
      have u0 := hS.q.2.1 o (by omega)
      have uf0 := hS.q.frozen o
      have u1 := hS1.q.2.1 (o + 1) (by omega)
      have uf1 := hS1.q.frozen (o + 1)
      have j1 : ¬ (q : Int) < (q : Int) := by omega
      clear hX hlt hq hS hS1 hne
      go_wp2_with fail
      rename World => wb
      obtain ⟨G2, hG2⟩ : ∃ G2, G2 = setG (setG G o X) (o + 1) m.label := ⟨_, rfl⟩
      obtain ⟨L, hL⟩ : ∃ L, L = twoL (m.items.map codeI) := ⟨_, rfl⟩
      have HG2 := Lib.hid hG2
      have HLL := Lib.hid hL
      have hS3 := hS2.out
      rw [← hG2, ← hL] at hS3
      have HS3 := Lib.hid hS3
      clear hS2 hS3 hG2 hL u0 uf0 u1 uf1 j1 s0 s1 s2 hor x1 i2 t2
      go_loopw [13] (fun i wr => ∃ p : Nat, p ≤ 8 ∧ i = .int .i64 p ∧ RPS W wr g (putW G2 o m.words p) W.heap.size L) (fun i _ => 8 - (intOf i).toNat)
      case atStart => exact ⟨0, Nat.zero_le _, rfl, HS3.out⟩
      case round =>
        obtain ⟨p, hp, rfl, hs⟩ := hrel
        have HSp := Lib.hid hs
        by_cases hlt : p < 8
        · have s1 : IntKind.i64.wrap (3 + (p : Int)) = 3 + (p : Int) := by rw [IntKind.wrap_i64]; omega
          have p1 : (0 : Int) ≤ 3 + (p : Int) := by omega
          have p2 : 3 + (p : Int) < 32 := by omega
          have p3 : (3 + (p : Int)).toNat = 3 + p := by omega
          have p4 : (p : Int) < 8 := by omega
          have p5 : (0 : Int) ≤ (p : Int) := by omega
          have hs1 := hs.set Hne.out (o + (3 + p)) 0 (by omega) (by omega)
          have u0 := hs.q.2.1 (o + (3 + p)) (by omega)
          have uf0 := hs.q.frozen (o + (3 + p))
          by_cases hpn : p < n
          · have hpl : p < m.words.length := by rw [HN.out]; exact hpn
            have p6 : (p : Int) < (n : Int) := by omega
            have hmem : m.words[p] < 18446744073709551616 := HW.out _ (List.getElem_mem hpl)
            have hs2 := (hs1.set Hne.out (o + (3 + p)) m.words[p] (by omega) hmem).drew
            rw [setG_setG] at hs2
            have HS2 : Hid (RPS W (((wr.setCell ⟨g, o + (3 + p), none⟩ (.int .u64 ((0 : Nat) : Int))).setCell ⟨g, o + (3 + p), none⟩ (.int .u64 ((m.words[p] : Nat) : Int))).drew) g (putW G2 o m.words (p + 1)) W.heap.size L) := Lib.hid (by
              show RPS W _ g (setG _ _ _) _ _
              rw [getD_lt hpl]
              exact hs2)
            obtain ⟨b, off, rfl, _, hc⟩ := (HA.out.grown hs1.way).sl.word hpl
            have cw := hc p hpl
            obtain ⟨y, hy⟩ : ∃ y, m.words[p] = y := ⟨_, rfl⟩
            rw [hy] at cw HS2
            have v1 := hs1.q.2.1 (o + (3 + p)) (by omega)
            have vf1 := hs1.q.frozen (o + (3 + p))
            rw [show ((0 : Nat) : Int) = 0 from rfl] at cw v1 vf1
            clear hc hs hs1 hs2 hy hmem
            go_wp2_with fail
            go_region_law (fail)
            all_goals
              clear cw v1 vf1 u0 uf0
              go_wp2
              go_roundw
              case rel => exact ⟨p + 1, by omega, by go_num, HS2.out⟩
              case measure => simp [intOf]; omega
          · have p6 : ¬ (p : Int) < (n : Int) := by omega
            have HS2 : Hid (RPS W (wr.setCell ⟨g, o + (3 + p), none⟩ (.int .u64 ((0 : Nat) : Int))) g (putW G2 o m.words (p + 1)) W.heap.size L) := Lib.hid (by
              show RPS W _ g (setG _ _ _) _ _
              rw [getD_ge (by have := HN.out; omega)]
              exact hs1)
            clear hs hs1
            go_wp2_with fail
            go_roundw
            case rel => exact ⟨p + 1, by omega, by go_num, HS2.out⟩
            case measure => simp [intOf]; omega
        · have hp8 : p = 8 := by omega
          subst hp8
          have p4 : ¬ (8 : Int) < 8 := by omega
          obtain ⟨r0, hr0⟩ : ∃ r0, (m.items.map codeI).getD 0 0 = r0 := ⟨_, rfl⟩
          obtain ⟨r1, hr1⟩ : ∃ r1, (m.items.map codeI).getD 1 0 = r1 := ⟨_, rfl⟩
          have hcl : ∀ j, (m.items.map codeI).getD j 0 < 18446744073709551616 := fun j => by
            by_cases q : j < (m.items.map codeI).length
            · rw [getD_lt q]
              simp only [List.getElem_map]
              have := codeI_lt _ (((putOk_iff m).1 HPO.out).2.2 _ (List.getElem_mem (l := m.items) (n := j) (by simpa using q)))
              omega
            · rw [getD_ge (by omega)]; decide
          have h1 := (hs.set Hne.out (o + 11) r0 (by omega) (by rw [← hr0]; exact hcl 0)).drew
          have h2 := (h1.set Hne.out (o + 12) r1 (by omega) (by rw [← hr1]; exact hcl 1)).drew
          have H2 : Hid (RPS W ((((wr.setCell ⟨g, o + 11, none⟩ (.int .u64 ((r0 : Nat) : Int))).drew).setCell ⟨g, o + 12, none⟩ (.int .u64 ((r1 : Nat) : Int))).drew) g (rPutY G o m) W.heap.size L) := Lib.hid (by
            unfold rPutY
            rw [HN.out, HK.out, ← HX.out, ← HG2.out, hr0, hr1]
            exact h2)
          have b0 := cell_of_row wr W.heap.size 0 _ _ _ hs.box
          rw [HLL.out, twoL_get _ 0 (by omega), hr0] at b0
          have b1 := cell_of_row _ W.heap.size 1 _ _ _ h1.box
          rw [HLL.out, twoL_get _ 1 (by omega), hr1] at b1
          have u0 := hs.q.2.1 (o + 11) (by omega)
          have uf0 := hs.q.frozen (o + 11)
          have u1 := h1.q.2.1 (o + 12) (by omega)
          have uf1 := h1.q.frozen (o + 12)
          clear hr0 hr1 hcl h1 h2 hs hlt hp
          go_wp2_with fail
          go_region_law (fail)
          all_goals
            clear b0 u0 uf0
            go_wp2_with fail
            go_region_law (fail)
            all_goals
              clear b1 u1 uf1
              go_wp2
              go_ret
              refine ⟨?_, ?_, H2.out.way⟩
              · rw [HE.out]; unfold putE; rw [HPO.out]; rfl
              · unfold rPutG; rw [HPO.out]; exact H2.out.q
theorem rput_any (W : World) (g o : Nat) (G : Nat → Nat) (m : Msg) (er : Int) (her : putE m = er) (lb : Int) (hlbe : (m.label : Int) = lb) (A B : Option Addr) (n c k d : Nat) (hn : m.words.length = n) (hk : m.items.length = k) (hA : SlK g W A (u64s m.words)) (hB : SlR W B (itemCells m.items)) (hlw : ∀ x ∈ m.words, x < 18446744073709551616) (hlb : m.label < 18446744073709551616) (ho : o + 32 ≤ 64) (h : QAt W g G) :
    Calls Try.prog 25 #[.pointer (some ⟨g, o, none⟩), .int .u64 lb, .slice A n c, .slice B k d] W fun e w' => e = .returned (.int .i64 er) ∧ QAt w' g (rPutG G o m) ∧ W.grownBy w' (some g) := by
  subst her hlbe
  by_cases h1 : n ≤ 8 ∧ k ≤ 2
  · exact rput_short W g o G m A B n c k d hn hk h1.1 h1.2 hA hB hlw hlb ho h
  · have hno : putOk m = false := by
      by_cases h8 : 8 < m.words.length
      · exact putOk_no1 h8
      · exact putOk_no2 (by omega)
    refine (rput_long W _ m _ A B n c k d hn hk (by omega)).mono ?_
    rintro e w' ⟨rfl, rfl⟩
    unfold putE rPutG
    rw [hno]
    exact ⟨rfl, h, World.grownBy.refl _ _⟩
end Go.Proofs.Ytgacfgofpanchaa
