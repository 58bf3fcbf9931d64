/- The contract of Get. No condition. -/
import Derived.Test.YtgacfgofpanchaaProg
import Derived.Test.YtgacfgofpanchaaK15
import Derived.WalkKit
import Derived.WalkLawsBesides
import Derived.WalkSpells
import Derived.Deep.QuietTactic
import Derived.BigQuiet
import Derived.Deep.RegionHeld3
import Derived.Deep.RegionLaw
import Derived.Outline
import Derived.Lib.LazyBuf
import Derived.Deep.WholeRow
namespace Go.Proofs.Ytgacfgofpanchaa
open Go.RowKit

theorem pload_b {W : World} {bp ga gb N a : Nat} {f : Nat → Nat} (i : Nat) (v : Int) (hi : i ≤ 31) (hv : v = (i : Int)) (x : Nat) (hx : wd f a i = x) (h : PB W bp ga gb N a f) : Calls Try.prog 38 #[.pointer (some ⟨bp, 0, none⟩), .int .i64 v] W fun e w' => e = .returned (.int .u64 (x : Int)) ∧ Below W.heap.size W w' :=
  (pload i v hi hv x hx h).mono fun e w' ⟨he, n, hn⟩ => ⟨he, by rw [hn]; exact below_drewN (Below.refl _ _) n⟩
set_option maxRecDepth 100000 in
theorem get_nil (W : World) : Calls Try.prog 19 #[.pointer none] W (GetPost W zeroM) := by
  go_enter Try.func19, Try.ntmps19
  go_wp2
  exact bodyPost_ret (v := .agg #[.int .u64 0, .slice none 0 0, .slice none 0 0]) (by simp [results, Try.results19, go_sem]) rfl (GetPost.zero rfl ((Below.refl _ _).alloc (Nat.le_refl _) _))
set_option maxRecDepth 100000 in
set_option maxHeartbeats 800000 in
theorem get_no0 (W : World) (bp ga gb N a : Nat) (f : Nat → Nat) (h : PB W bp ga gb N a f) (ho : 8 < wd f a 0 % 16 ∨ 2 < wd f a 0 / 16) : Calls Try.prog 19 #[.pointer (some ⟨bp, 0, none⟩)] W (GetPost W (getM (wd f a))) := by
  have hm := getM_no0 ho
  obtain ⟨M, hM⟩ : ∃ M, M = getM (wd f a) := ⟨_, rfl⟩
  rw [← hM] at hm ⊢
  clear hM
  have Hm := Lib.hid hm
  have hx := h.wd_lt 0
  obtain ⟨x, hxe⟩ : ∃ x, wd f a 0 = x := ⟨_, rfl⟩
  rw [hxe] at ho hx
  have HX := Lib.hid hxe
  have H1 := Lib.hid (h.alloc (.cells #[.int .u64 0, .slice none 0 0, .slice none 0 0] 43))
  have f0 := and15 x hx
  clear h hxe hm hx
  by_cases h8 : 8 < x % 16
  · have t8 : decide ((8 : Int) < (x : Int) % 16) = true := decide_eq_true (by omega)
    clear ho h8
    go_enter Try.func19, Try.ntmps19
    go_wp2_with fail
    refine (pload 0 0 (by omega) rfl x HX.out H1.out).mono ?_
    rintro e w2 ⟨rfl, n, rfl⟩
    go_wp2_with fail
    refine (pload 0 0 (by omega) rfl x HX.out (H1.out.drewN n)).mono ?_
    rintro e w2 ⟨rfl, n, rfl⟩
    go_wp2_with fail
    exact bodyPost_ret (v := .agg #[.int .u64 0, .slice none 0 0, .slice none 0 0]) (by simp [results, Try.results19, go_sem]) rfl (GetPost.zero Hm.out (by
      repeat (first | (with_reducible exact below_drewN ((Below.refl _ _).alloc (Nat.le_refl _) _) _) | (with_reducible refine setAt ?_ (Nat.le_refl _) _))))
  · have t8 : decide ((8 : Int) < (x : Int) % 16) = false := decide_eq_false (by omega)
    have t2 : decide ((2 : Int) < (x : Int) / 16) = true := decide_eq_true (by omega)
    clear ho h8
    go_enter Try.func19, Try.ntmps19
    go_wp2_with fail
    refine (pload 0 0 (by omega) rfl x HX.out H1.out).mono ?_
    rintro e w2 ⟨rfl, n, rfl⟩
    go_wp2_with fail
    refine (pload 0 0 (by omega) rfl x HX.out (H1.out.drewN n)).mono ?_
    rintro e w2 ⟨rfl, n, rfl⟩
    go_wp2_with fail
    exact bodyPost_ret (v := .agg #[.int .u64 0, .slice none 0 0, .slice none 0 0]) (by simp [results, Try.results19, go_sem]) rfl (GetPost.zero Hm.out (by
      repeat (first | (with_reducible exact below_drewN ((Below.refl _ _).alloc (Nat.le_refl _) _) _) | (with_reducible refine setAt ?_ (Nat.le_refl _) _))))

set_option maxRecDepth 100000 in
set_option maxHeartbeats 6400000 in
theorem get_main (W : World) (bp ga gb N a : Nat) (f g : Nat → Nat) (nn kk x : Nat) (hg : Hid (∀ i, wd f a i = g i)) (hx0 : Hid (g 0 = x)) (hx : x < 18446744073709551616) (hn : x % 16 = nn) (hk : x / 16 = kk) (h8 : nn ≤ 8) (h2 : kk ≤ 2) (h : PB W bp ga gb N a f) : Calls Try.prog 19 #[.pointer (some ⟨bp, 0, none⟩)] W (GetPost W (getM g)) := by
  obtain ⟨M, hM⟩ : ∃ M, M = getM g := ⟨_, rfl⟩
  rw [← hM]
  have HM := Lib.hid hM
  have Hgl : Hid (∀ i, g i < 18446744073709551616) := Lib.hid (fun i => by rw [← hg.out i]; exact h.wd_lt i)
  have H0 := Lib.hid h
  have H1 := Lib.hid (h.alloc (.cells #[.int .u64 0, .slice none 0 0, .slice none 0 0] 43))
  have f0 := and15 x hx
  rw [hn] at f0
  have f1 : (x : Int) / 16 = (kk : Int) := by omega
  have i8 : (nn : Int) ≤ 8 := by omega
  have i2 : (kk : Int) ≤ 2 := by omega
  have t8 : decide ((8 : Int) < (nn : Int)) = false := decide_eq_false (by omega)
  have t2 : decide ((2 : Int) < (kk : Int)) = false := decide_eq_false (by omega)
  have HN := Lib.hid hn
  have HK := Lib.hid hk
  obtain ⟨lb, hlb⟩ : ∃ lb, lb = g 1 := ⟨_, rfl⟩
  have HLB := Lib.hid hlb
  obtain ⟨i0, hi0, hz0, hz1, hz2⟩ := info_parts info_u64
  clear h hM hn hk hlb hx
  go_enter Try.func19, Try.ntmps19
  go_wp2_with fail
  refine (pload 0 0 (by omega) rfl x ((hg.out 0).trans hx0.out) H1.out).mono ?_
  rintro e w2 ⟨rfl, n1, rfl⟩
  go_wp2_with fail
  refine (pload 0 0 (by omega) rfl x ((hg.out 0).trans hx0.out) (H1.out.drewN n1)).mono ?_
  rintro e w2 ⟨rfl, n2, rfl⟩
  go_wp2_with fail
  refine (pload 1 1 (by omega) rfl lb ((hg.out 1).trans HLB.out.symm) (H1.out.drewN _)).mono ?_
  rintro e w2 ⟨rfl, n3, rfl⟩
  clear f0 f1
  go_wp2_with fail
  go_loopw [31] (fun i wr => ∃ (q : Nat) (A' : Option Addr) (c' : Nat), q ≤ nn ∧ i = .int .i64 q ∧ L1S W wr lb (wsG g q) q A' c') (fun i _ => nn - (intOf i).toNat)
  case atStart => exact ⟨0, none, 0, Nat.zero_le _, rfl, L1S.start W lb _⟩
  case round =>
    obtain ⟨q, A', c', hq, rfl, hL⟩ := hrel
    have HL := Lib.hid hL
    by_cases hlt : q < nn
    · have hPd : PB wr.drew bp ga gb N a f := H0.out.below hL.way.drew
      have hP : PB wr bp ga gb N a f := H0.out.below hL.way
      have vw : wr.cell? ⟨W.heap.size + 1, 1, none⟩ = some (.slice A' q c') := (msg_cells hL.msg).2.1
      have hzz : W.heap.size + 1 < wr.heap.size := by have := hL.size; omega
      have s1 : IntKind.i64.wrap (3 + (q : Int)) = 3 + (q : Int) := by rw [IntKind.wrap_i64]; omega
      have j1 : (q : Int) < (nn : Int) := by omega
      obtain ⟨y, hy⟩ : ∃ y, g (3 + q) = y := ⟨_, rfl⟩
      have HY := Lib.hid hy
      clear hL hy
      go_wp2_with fail
      go_region_law (first | (go_simp; go_at_call 38; (with_reducible refine (pload_b (3 + q) (3 + (q : Int)) (by omega) (by omega) y ((hg.out _).trans HY.out) (by assumption)).mono ?_); rintro e w3 ⟨rfl, hb3⟩; have hL3 := L1S.below HL.out ((Below.refl _ _).drew.trans hb3); have vw3 := (msg_cells hL3.msg).2.1; have hz3 : W.heap.size + 1 < w3.heap.size := (by have := hL3.size; omega); have HL3 := Lib.hid hL3; clear hL3) | ((refine step_app _ rfl (.tmp 35) (.tmp 40) 40 rfl (W.heap.size + 2) 22 i0 _ 1 8 Try.underlying40 hi0 hz0 hz1 hz2 rfl (by omega) A' q c' (u64s (wsG g q)) (by simp [Act.eval]) (HL3.out.own.alloc _) _ 1 1 (u64s [y]) (by simp [Act.eval]) rfl (SlR_new _ _ _) (u64s_one _) (by unfold maxLen; omega) (by omega) (by simp; omega) ?_; intro A5 k5 w5 hown5 hgr5 hb5; have hc5 : w5.cell? ⟨W.heap.size + 1, 1, none⟩ = some (.slice A' q c') := (hb5.cell (p := ⟨W.heap.size + 1, 1, none⟩) (by show W.heap.size + 1 < W.heap.size + 2; omega)).trans ((World.cell?_alloc_lt _ _ ⟨W.heap.size + 1, 1, none⟩ hz3).trans vw3); have hf5 : w5.frozen? ⟨W.heap.size + 1, 1, none⟩ = false := frozen_of_row w5 _ 1 _ _ ((hb5.block _ (by omega)).trans ((Below.heap_alloc w3 _ _ hz3).trans HL3.out.msg)))))
      all_goals
        have hL5 := L1S.step (x := y) (HL3.out.below ((Below.refl _ _).alloc (Nat.le_refl _) _)) hb5 hown5
        have HL5 : Hid (L1S W (w5.setCell ⟨W.heap.size + 1, 1, none⟩ (.slice A5 (q + 1) k5)) lb (wsG g (q + 1)) (q + 1) A5 k5) := Lib.hid (by rw [wsG_succ, HY.out]; exact hL5)
        clear hL5 hown5 hb5 hgr5 hc5 hf5 vw3 hz3 HL3 hb3 hPd hP vw hzz s1
        go_wp2
        go_roundw
        case rel => exact ⟨q + 1, A5, k5, by omega, by go_num, HL5.out⟩
        case measure => simp [intOf]; omega
    · have hqn : q = nn := by omega
      subst hqn
      have j1 : ¬ (q : Int) < (q : Int) := by omega
      obtain ⟨i5, hi5, hy0, hy1, hy2⟩ := info_parts info_item
      clear hL hlt hq
      go_wp2_with fail
      rename World => wa
      go_loopw [46] (fun i wr => ∃ (j : Nat) (B' : Option Addr) (d' : Nat), j ≤ kk ∧ i = .int .i64 j ∧ L2S W wa wr lb q A' c' (isG g j) j B' d' ∧ ∀ t, t < j → itemOk (g (11 + t)) = true) (fun i _ => kk - (intOf i).toNat)
      case atStart => exact ⟨0, none, 0, Nat.zero_le _, rfl, ⟨HL.out.msg, World.ownsRow_nil _ _ _ _, World.grownBy.refl _ _⟩, fun t ht => absurd ht (Nat.not_lt_zero t)⟩
      case round =>
        obtain ⟨j, B', d', hj, rfl, h2s, hok⟩ := hrel
        have H2 := Lib.hid h2s
        have Hok := Lib.hid hok
        have hsz := HL.out.size
        have Bx : Hid (Below W.heap.size W wr) := Lib.hid (HL.out.way.trans (grownBy_below h2s.way (by omega) HL.out.way.size))
        have hg1 : W.heap.size + 1 < wr.heap.size := blt h2s.msg
        have hzx : wr.heap[W.heap.size]? = some (.cells zeroMV 43 (0, 0)) := (h2s.way.block _ (by omega) (fun e => by injection e with e; omega)).trans HL.out.zero
        have Hzx := Lib.hid hzx
        clear h2s hok hzx
        by_cases hlt : j < kk
        · have s1 : IntKind.i64.wrap (11 + (j : Int)) = 11 + (j : Int) := by rw [IntKind.wrap_i64]; omega
          have j2 : (j : Int) < (kk : Int) := by omega
          obtain ⟨y, hy⟩ : ∃ y, g (11 + j) = y := ⟨_, rfl⟩
          have hyl : y < 18446744073709551616 := by rw [← hy]; exact Hgl.out _
          have HY := Lib.hid hy
          have HYL := Lib.hid hyl
          clear hy hyl
          by_cases hk1 : itemOk y = true
          · have HK1 := Lib.hid hk1
            clear hk1
            go_wp2_with fail
            refine (pload_b (11 + j) (11 + (j : Int)) (by omega) (by omega) y ((hg.out _).trans HY.out) (H0.out.below Bx.out)).mono ?_
            rintro e w3 ⟨rfl, hb3⟩
            have Hb3 := Lib.hid hb3
            clear hb3
            go_wp2_with fail
            refine (item_yes y _ HYL.out HK1.out).mono ?_
            rintro e w4 ⟨rfl, hb4⟩
            have hb34 : Below wr.heap.size wr w4 := Hb3.out.trans (hb4.mono Hb3.out.size)
            have e8 : w4.cell? ⟨W.heap.size + 1, 2, none⟩ = some (.slice B' j d') := (hb34.cell (p := ⟨W.heap.size + 1, 2, none⟩) hg1).trans (msg_cells H2.out.msg).2.2
            have hz4 : W.heap.size + 1 < w4.heap.size := Nat.lt_of_lt_of_le hg1 hb34.size
            have hz9 : wa.heap.size ≤ w4.heap.size := Nat.le_trans H2.out.way.size hb34.size
            have Hb34 := Lib.hid hb34
            clear hb4 hb34 Hb3
            obtain ⟨it, hit⟩ : ∃ it, itemOf y = it := ⟨_, rfl⟩
            rw [hit]
            have HIT := Lib.hid hit
            clear hit
            go_wp2_with (at_builtin; refine wpList_app _ rfl (.tmp 61) (.tmp 63) 41 rfl wa.heap.size 24 i5 _ 5 40 Try.underlying41 hi5 hy0 hy1 hy2 rfl (by omega) _ _ _ _ rfl (((ownsRow_below H2.out.own Hb34.out).alloc _).alloc _) _ 1 1 (itemCells [it]) rfl rfl (SlR_new2 _ _ _ _) (itemCells_one _) (by unfold maxLen; omega) (by omega) (by simp; omega) ?_; intro A5 k5 w5 hown5 hgr5 hb5; have f1 : w5.cell? ⟨W.heap.size + 1, 2, none⟩ = some (.slice B' j d') := (hb5.cell (p := ⟨W.heap.size + 1, 2, none⟩) (by show W.heap.size + 1 < wa.heap.size; omega)).trans ((World.cell?_alloc_lt _ _ ⟨W.heap.size + 1, 2, none⟩ (by simp; omega)).trans ((World.cell?_alloc_lt _ _ ⟨W.heap.size + 1, 2, none⟩ hz4).trans e8)); have hk5 : w5.heap[W.heap.size + 1]? = some (.cells (msgV lb A' q c' B' j d') 43 (0, 0)) := (hb5.block (W.heap.size + 1) (by omega)).trans ((Below.heap_alloc _ _ _ (by simp; omega)).trans ((Below.heap_alloc _ _ _ hz4).trans ((Hb34.out.block (W.heap.size + 1) hg1).trans H2.out.msg))); have f2 : w5.frozen? ⟨W.heap.size + 1, 2, none⟩ = false := frozen_of_row w5 (W.heap.size + 1) 2 _ _ hk5; have Hk5 := Lib.hid hk5; clear hk5)
            have hb5' : Below wa.heap.size wr w5 := (((Hb34.out.mono H2.out.way.size).alloc hz9 _).alloc (by simp; omega) _).trans hb5
            have h2t : L2S W wa (w5.setCell ⟨W.heap.size + 1, 2, none⟩ (.slice A5 (j + 1) k5)) lb q A' c' (isG g (j + 1)) (j + 1) A5 k5 := by
              rw [isG_succ, HY.out, HIT.out]
              exact H2.out.step hsz hb5' hown5
            have H2t := Lib.hid h2t
            clear h2t hb5' hown5 hgr5 hb5
            go_roundw
            case rel =>
              refine ⟨j + 1, A5, k5, by omega, by go_num, H2t.out, fun t ht => ?_⟩
              by_cases e : t = j
              · subst e; rw [HY.out]; exact HK1.out
              · exact Hok.out t (by omega)
            case measure => simp [intOf]; omega
          · have HK1 := Lib.hid (show itemOk y = false by simpa using hk1)
            have HMz : Hid (M = zeroM) := Lib.hid (by rw [HM.out]; exact getM_no1 (j := j) (by rw [hx0.out, HK.out]; exact hlt) (by rw [HY.out]; exact HK1.out))
            clear hk1
            go_wp2_with fail
            refine (pload_b (11 + j) (11 + (j : Int)) (by omega) (by omega) y ((hg.out _).trans HY.out) (H0.out.below Bx.out)).mono ?_
            rintro e w3 ⟨rfl, hb3⟩
            have Hb3 := Lib.hid hb3
            clear hb3
            go_wp2_with fail
            refine (item_no y _ HYL.out HK1.out).mono ?_
            rintro e w4 ⟨rfl, hb4⟩
            have hb34 : Below wr.heap.size wr w4 := Hb3.out.trans (hb4.mono Hb3.out.size)
            have Hk4 : Hid (w4.heap[W.heap.size]? = some (.cells zeroMV 43 (0, 0))) := Lib.hid ((hb34.block _ (by omega)).trans Hzx.out)
            have B4 : Hid (Below W.heap.size W w4) := Lib.hid (Bx.out.trans (hb34.mono Bx.out.size))
            clear hb4 hb34 Hb3
            go_wp2_with (refine wpList_store_whole 43 rfl (.tmp 2) (.tmp 59) rfl W.heap.size zeroMV rfl rfl 43 zeroMV ((Below.heap_alloc _ _ _ (blt Hk4.out)).trans Hk4.out) info_msg rfl one_zeroMV ?_; intro w6 hk6 hg6)
            exact ret_cell Try.results19 rfl hk6 Try.underlying43 rfl info_msg rfl (GetPost.zero HMz.out ((B4.out.alloc B4.out.size _).trans (grownBy_below hg6 (Nat.le_refl _) (by have := B4.out.size; simp; omega))))
        · have hjn : j = kk := by omega
          subst hjn
          have j2 : ¬ (j : Int) < (j : Int) := by omega
          have HMs : Hid (M = ⟨g 1, wsG g q, isG g j⟩) := Lib.hid (by rw [HM.out, getM_yes (by rw [hx0.out, HN.out]; exact h8) (by rw [hx0.out, HK.out]; exact h2) (by rw [hx0.out, HK.out]; exact Hok.out), hx0.out, HN.out, HK.out])
          obtain ⟨q0, q1, q2⟩ := msg_cells H2.out.msg
          clear hlt hj
          go_wp2_with (refine wpList_store_whole 43 rfl (.tmp 2) (.tmp 67) rfl W.heap.size (msgV lb A' q c' B' j d') rfl rfl 43 zeroMV Hzx.out info_msg rfl (one_msgV _ _ _ _ _ _ _) ?_; intro w6 hk6 hg6)
          refine ret_cell Try.results19 rfl hk6 Try.underlying43 rfl info_msg rfl ?_
          rw [HLB.out]
          exact GetPost.some HMs.out (ownsRow_sl (ownsRow_gb (ownsRow_gb HL.out.own H2.out.way (by omega)) hg6 (by omega))) (ownsRow_sl (ownsRow_gb H2.out.own hg6 (by omega))) (Bx.out.trans (grownBy_below hg6 (Nat.le_refl _) Bx.out.size)) (ownsRow_fresh HL.out.own (by omega)) (ownsRow_fresh H2.out.own (by omega))
theorem get_any (W : World) (bp ga gb N a : Nat) (f : Nat → Nat) (h : PB W bp ga gb N a f) : Calls Try.prog 19 #[.pointer (some ⟨bp, 0, none⟩)] W (GetPost W (getM (wd f a))) := by
  by_cases ho : 8 < wd f a 0 % 16 ∨ 2 < wd f a 0 / 16
  · exact get_no0 W bp ga gb N a f h ho
  · exact get_main W bp ga gb N a f (wd f a) _ _ _ (Lib.hid fun _ => rfl) (Lib.hid rfl) (h.wd_lt 0) rfl rfl (by omega) (by omega) h
end Go.Proofs.Ytgacfgofpanchaa
