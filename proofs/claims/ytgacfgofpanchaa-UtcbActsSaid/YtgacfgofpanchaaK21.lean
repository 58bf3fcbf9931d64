/- The contract of the reference's Get. No condition. -/
import Derived.Test.YtgacfgofpanchaaProg
import Derived.Test.YtgacfgofpanchaaK20
import Derived.WalkKit
import Derived.WalkLawsBesides
import Derived.WalkSpells
import Derived.Deep.QuietTactic
import Derived.BigQuiet
import Derived.Deep.RegionHeld3
import Derived.Deep.RegionLaw
import Derived.Outline
import Derived.Lib.LazyBuf
import Derived.Deep.WholeRow
namespace Go.Proofs.Ytgacfgofpanchaa
open Go.RowKit


set_option maxRecDepth 100000 in
set_option maxHeartbeats 800000 in
theorem rget_no0 (W : World) (g o : Nat) (G : Nat → Nat) (ho : o + 32 ≤ 64) (h : QAt W g G) (hno : 8 < vw G o 0 % 16 ∨ 2 < vw G o 0 / 16) : Calls Try.prog 27 #[.pointer (some ⟨g, o, none⟩)] W (GetPost W (getM (vw G o))) := by
  have hm := getM_no0 hno
  obtain ⟨M, hM⟩ : ∃ M, M = getM (vw G o) := ⟨_, rfl⟩
  rw [← hM] at hm ⊢
  clear hM
  have Hm := Lib.hid hm
  have hx : vw G o 0 < 18446744073709551616 := h.2.2 _
  have hg := h.lt
  have cz : (W.alloc (.cells #[.int .u64 0, .slice none 0 0, .slice none 0 0] 43)).cell? ⟨g, o, none⟩ = some (.int .u64 ((vw G o 0 : Nat) : Int)) := (World.cell?_alloc_lt _ _ ⟨g, o, none⟩ hg).trans (h.2.1 (o + 0) (by omega))
  have cn := World.new_ne _ _ cz
  obtain ⟨x, hxe⟩ : ∃ x, vw G o 0 = x := ⟨_, rfl⟩
  rw [hxe] at hno hx cz
  clear h hxe hm
  by_cases h8 : 8 < x % 16
  · have t8 : decide ((8 : Int) < (x : Int) % 16) = true := decide_eq_true (by omega)
    have f4 : (x : Int).tmod 16 = (x : Int) % 16 := by rw [Int.tmod_eq_emod_of_nonneg (by omega)]
    clear hno h8 hx
    go_enter Try.func27, Try.ntmps27
    go_wp2_with fail
    exact bodyPost_ret (v := .agg #[.int .u64 0, .slice none 0 0, .slice none 0 0]) (by simp [results, Try.results27, go_sem]) rfl (GetPost.zero Hm.out (by
      repeat (first | (with_reducible exact (Below.refl _ _).alloc (Nat.le_refl _) _) | (with_reducible exact below_drewN ((Below.refl _ _).alloc (Nat.le_refl _) _) _) | (with_reducible refine setAt ?_ (Nat.le_refl _) _))))
  · have t8 : decide ((8 : Int) < (x : Int) % 16) = false := decide_eq_false (by omega)
    have t2 : decide ((2 : Int) < (x : Int) / 16) = true := decide_eq_true (by omega)
    have f4 : (x : Int).tmod 16 = (x : Int) % 16 := by rw [Int.tmod_eq_emod_of_nonneg (by omega)]
    have f5 : IntKind.u64.wrap ((x : Int) / 16) = (x : Int) / 16 := by rw [IntKind.wrap_u64]; omega
    clear hno h8 hx
    go_enter Try.func27, Try.ntmps27
    go_wp2_with fail
    exact bodyPost_ret (v := .agg #[.int .u64 0, .slice none 0 0, .slice none 0 0]) (by simp [results, Try.results27, go_sem]) rfl (GetPost.zero Hm.out (by
      repeat (first | (with_reducible exact (Below.refl _ _).alloc (Nat.le_refl _) _) | (with_reducible exact below_drewN ((Below.refl _ _).alloc (Nat.le_refl _) _) _) | (with_reducible refine setAt ?_ (Nat.le_refl _) _))))
set_option maxRecDepth 100000 in
set_option maxHeartbeats 6400000 in
theorem rget_main (W : World) (gq o : Nat) (G g : Nat → Nat) (nn kk x : Nat) (hg : Hid (∀ i, vw G o i = g i)) (hx0 : Hid (g 0 = x)) (hx : x < 18446744073709551616) (hn : x % 16 = nn) (hk : x / 16 = kk) (h8 : nn ≤ 8) (h2 : kk ≤ 2) (ho : o + 32 ≤ 64) (h : QAt W gq G) : Calls Try.prog 27 #[.pointer (some ⟨gq, o, none⟩)] W (GetPost W (getM g)) := by
  obtain ⟨M, hM⟩ : ∃ M, M = getM g := ⟨_, rfl⟩
  rw [← hM]
  have HM := Lib.hid hM
  have Hgl : Hid (∀ i, g i < 18446744073709551616) := Lib.hid (fun i => by rw [← hg.out i]; exact h.2.2 _)
  have Hlt : Hid (gq < W.heap.size) := Lib.hid h.lt
  have HC : Hid (∀ (w' : World), Below W.heap.size W w' → ∀ i, i < 32 → w'.cell? ⟨gq, o + i, none⟩ = some (.int .u64 ((g i : Nat) : Int))) := Lib.hid (fun w' hb i hi => by
    rw [hb.cell (p := ⟨gq, o + i, none⟩) Hlt.out, h.2.1 (o + i) (by omega), ← hg.out i]
    rfl)
  have f0 : (x : Int) % 16 = (nn : Int) := by omega
  have f1 : (x : Int) / 16 = (kk : Int) := by omega
  have f4 : (x : Int).tmod 16 = (nn : Int) := by rw [Int.tmod_eq_emod_of_nonneg (by omega)]; exact f0
  have i8 : (nn : Int) ≤ 8 := by omega
  have i2 : (kk : Int) ≤ 2 := by omega
  have f5 : IntKind.u64.wrap (kk : Int) = (kk : Int) := by rw [IntKind.wrap_u64]; omega
  have t8 : decide ((8 : Int) < (nn : Int)) = false := decide_eq_false (by omega)
  have t2 : decide ((2 : Int) < (kk : Int)) = false := decide_eq_false (by omega)
  have HN := Lib.hid hn
  have HK := Lib.hid hk
  obtain ⟨lb, hlb⟩ : ∃ lb, lb = g 1 := ⟨_, rfl⟩
  have HLB := Lib.hid hlb
  obtain ⟨i0, hi0, hz0, hz1, hz2⟩ := info_parts info_u64
  have cz : (W.alloc (.cells #[.int .u64 0, .slice none 0 0, .slice none 0 0] 43)).cell? ⟨gq, o, none⟩ = some (.int .u64 (x : Int)) := by rw [← hx0.out]; exact HC.out _ ((Below.refl _ _).alloc (Nat.le_refl _) _) 0 (by omega)
  have cz1 : (W.alloc (.cells #[.int .u64 0, .slice none 0 0, .slice none 0 0] 43)).cell? ⟨gq, o + 1, none⟩ = some (.int .u64 (lb : Int)) := by rw [hlb]; exact HC.out _ ((Below.refl _ _).alloc (Nat.le_refl _) _) 1 (by omega)
  have cn := World.new_ne _ _ cz
  clear h hM hn hk hlb hx
  go_enter Try.func27, Try.ntmps27
  go_wp2_with fail
  clear f0 f1 f4 cz cz1 cn
  go_loopw [6] (fun i wr => ∃ (q : Nat) (A' : Option Addr) (c' : Nat), q ≤ nn ∧ i = .int .i64 q ∧ L1S W wr lb (wsG g q) q A' c') (fun i _ => nn - (intOf i).toNat)
  case atStart => exact ⟨0, none, 0, Nat.zero_le _, rfl, L1S.start W lb 0⟩
  case round =>
    obtain ⟨q, A', c', hq, rfl, hL⟩ := hrel
    have HL := Lib.hid hL
    by_cases hlt : q < nn
    · obtain ⟨y, hy⟩ : ∃ y, g (3 + q) = y := ⟨_, rfl⟩
      have vg : wr.cell? ⟨gq, o + (3 + q), none⟩ = some (.int .u64 (y : Int)) := by rw [← hy]; exact HC.out _ hL.way (3 + q) (by omega)
      have hgq : gq < wr.heap.size := Nat.lt_of_lt_of_le Hlt.out hL.way.size
      have vw : wr.cell? ⟨W.heap.size + 1, 1, none⟩ = some (.slice A' q c') := (msg_cells hL.msg).2.1
      have hzz : W.heap.size + 1 < wr.heap.size := by have := hL.size; omega
      have s1 : IntKind.i64.wrap (3 + (q : Int)) = 3 + (q : Int) := by rw [IntKind.wrap_i64]; omega
      have p1 : (0 : Int) ≤ 3 + (q : Int) := by omega
      have p2 : 3 + (q : Int) < 32 := by omega
      have p3 : (3 + (q : Int)).toNat = 3 + q := by omega
      have j1 : (q : Int) < (nn : Int) := by omega
      have HY := Lib.hid hy
      clear hL hy
      go_wp2_with fail
      have HLd := Lib.hid (HL.out.below (Below.refl _ _).drew)
      go_region_law (first | ((refine step_app _ rfl (.tmp 42) (.tmp 50) 40 rfl (W.heap.size + 2) 22 i0 _ 1 8 Try.underlying40 hi0 hz0 hz1 hz2 rfl (by omega) A' q c' (u64s (wsG g q)) (by simp [Act.eval, Act.put]) (HLd.out.own.alloc _) _ 1 1 (u64s [y]) (by simp [Act.eval, Act.put]) rfl (SlR_new _ _ _) (u64s_one _) (by unfold maxLen; omega) (by omega) (by simp; omega) ?_; intro A5 k5 w5 hown5 hgr5 hb5; have hc5 : w5.cell? ⟨W.heap.size + 1, 1, none⟩ = some (.slice A' q c') := (hb5.cell (p := ⟨W.heap.size + 1, 1, none⟩) (by show W.heap.size + 1 < W.heap.size + 2; omega)).trans ((World.cell?_alloc_lt _ _ ⟨W.heap.size + 1, 1, none⟩ hzz).trans vw); have hf5 : w5.frozen? ⟨W.heap.size + 1, 1, none⟩ = false := frozen_of_row w5 _ 1 _ _ ((hb5.block _ (by omega)).trans ((Below.heap_alloc wr.drew _ _ hzz).trans HLd.out.msg)))))
      all_goals
        have hL5 := L1S.step (x := y) (HLd.out.below ((Below.refl _ _).alloc (Nat.le_refl _) _)) hb5 hown5
        have HL5 : Hid (L1S W (w5.setCell ⟨W.heap.size + 1, 1, none⟩ (.slice A5 (q + 1) k5)) lb (wsG g (q + 1)) (q + 1) A5 k5) := Lib.hid (by rw [wsG_succ, HY.out]; exact hL5)
        clear hL5 hown5 hb5 hgr5 hc5 hf5 vw hzz s1 vg hgq p1 p2 p3
        go_wp2
        go_roundw
        case rel => exact ⟨q + 1, A5, k5, by omega, by go_num, HL5.out⟩
        case measure => simp [intOf]; omega
    · have hqn : q = nn := by omega
      subst hqn
      have j1 : ¬ (q : Int) < (q : Int) := by omega
      obtain ⟨i5, hi5, hy0, hy1, hy2⟩ := info_parts info_item
      clear hL hlt hq
      go_wp2_with fail
      rename World => wa
      go_loopw [7] (fun i wr => ∃ (j : Nat) (B' : Option Addr) (d' : Nat), j ≤ kk ∧ i = .int .i64 j ∧ L2S W wa wr lb q A' c' (isG g j) j B' d' ∧ ∀ t, t < j → itemOk (g (11 + t)) = true) (fun i _ => kk - (intOf i).toNat)
      case atStart => exact ⟨0, none, 0, Nat.zero_le _, rfl, ⟨HL.out.msg, World.ownsRow_nil _ _ _ _, World.grownBy.refl _ _⟩, fun t ht => absurd ht (Nat.not_lt_zero t)⟩
      case round =>
        obtain ⟨j, B', d', hj, rfl, h2s, hok⟩ := hrel
        have H2 := Lib.hid h2s
        have Hok := Lib.hid hok
        have hsz := HL.out.size
        have Bx : Hid (Below W.heap.size W wr) := Lib.hid (HL.out.way.trans (grownBy_below h2s.way (by omega) HL.out.way.size))
        have hg1 : W.heap.size + 1 < wr.heap.size := blt h2s.msg
        have hzx : wr.heap[W.heap.size]? = some (.cells zeroMV 43 (0, 0)) := (h2s.way.block _ (by omega) (fun e => by injection e with e; omega)).trans HL.out.zero
        have Hzx := Lib.hid hzx
        clear h2s hok hzx
        by_cases hlt : j < kk
        · have s1 : IntKind.i64.wrap (11 + (j : Int)) = 11 + (j : Int) := by rw [IntKind.wrap_i64]; omega
          have p1 : (0 : Int) ≤ 11 + (j : Int) := by omega
          have p2 : 11 + (j : Int) < 32 := by omega
          have p3 : (11 + (j : Int)).toNat = 11 + j := by omega
          have j2 : (j : Int) < (kk : Int) := by omega
          obtain ⟨y, hy⟩ : ∃ y, g (11 + j) = y := ⟨_, rfl⟩
          have hyl : y < 18446744073709551616 := by rw [← hy]; exact Hgl.out _
          have vg : wr.cell? ⟨gq, o + (11 + j), none⟩ = some (.int .u64 (y : Int)) := by rw [← hy]; exact HC.out _ Bx.out (11 + j) (by omega)
          have HY := Lib.hid hy
          have HYL := Lib.hid hyl
          clear hy hyl
          by_cases hk1 : itemOk y = true
          · have HK1 := Lib.hid hk1
            clear hk1
            go_wp2_with fail
            refine (Item14_yes y _ HYL.out HK1.out).mono ?_
            rintro e w4 ⟨rfl, hb34⟩
            have e8 : w4.cell? ⟨W.heap.size + 1, 2, none⟩ = some (.slice B' j d') := (hb34.cell (p := ⟨W.heap.size + 1, 2, none⟩) hg1).trans (msg_cells H2.out.msg).2.2
            have hz4 : W.heap.size + 1 < w4.heap.size := Nat.lt_of_lt_of_le hg1 hb34.size
            have hz9 : wa.heap.size ≤ w4.heap.size := Nat.le_trans H2.out.way.size hb34.size
            have Hb34 := Lib.hid hb34
            clear hb34 vg
            obtain ⟨it, hit⟩ : ∃ it, itemOf y = it := ⟨_, rfl⟩
            rw [hit]
            have HIT := Lib.hid hit
            clear hit
            go_wp2_with (at_builtin; refine wpList_app _ rfl (.tmp 74) (.tmp 76) 41 rfl wa.heap.size 24 i5 _ 5 40 Try.underlying41 hi5 hy0 hy1 hy2 rfl (by omega) _ _ _ _ rfl (((ownsRow_below H2.out.own Hb34.out).alloc _).alloc _) _ 1 1 (itemCells [it]) rfl rfl (SlR_new2 _ _ _ _) (itemCells_one _) (by unfold maxLen; omega) (by omega) (by simp; omega) ?_; intro A5 k5 w5 hown5 hgr5 hb5; have f1 : w5.cell? ⟨W.heap.size + 1, 2, none⟩ = some (.slice B' j d') := (hb5.cell (p := ⟨W.heap.size + 1, 2, none⟩) (by show W.heap.size + 1 < wa.heap.size; omega)).trans ((World.cell?_alloc_lt _ _ ⟨W.heap.size + 1, 2, none⟩ (by simp; omega)).trans ((World.cell?_alloc_lt _ _ ⟨W.heap.size + 1, 2, none⟩ hz4).trans e8)); have hk5 : w5.heap[W.heap.size + 1]? = some (.cells (msgV lb A' q c' B' j d') 43 (0, 0)) := (hb5.block (W.heap.size + 1) (by omega)).trans ((Below.heap_alloc _ _ _ (by simp; omega)).trans ((Below.heap_alloc _ _ _ hz4).trans ((Hb34.out.block (W.heap.size + 1) hg1).trans H2.out.msg))); have f2 : w5.frozen? ⟨W.heap.size + 1, 2, none⟩ = false := frozen_of_row w5 (W.heap.size + 1) 2 _ _ hk5; have Hk5 := Lib.hid hk5; clear hk5)
            have hb5' : Below wa.heap.size wr w5 := (((Hb34.out.mono H2.out.way.size).alloc hz9 _).alloc (by simp; omega) _).trans hb5
            have h2t : L2S W wa (w5.setCell ⟨W.heap.size + 1, 2, none⟩ (.slice A5 (j + 1) k5)) lb q A' c' (isG g (j + 1)) (j + 1) A5 k5 := by
              rw [isG_succ, HY.out, HIT.out]
              exact H2.out.step hsz hb5' hown5
            have H2t := Lib.hid h2t
            clear h2t hb5' hown5 hgr5 hb5
            go_roundw
            case rel =>
              refine ⟨j + 1, A5, k5, by omega, by go_num, H2t.out, fun t ht => ?_⟩
              by_cases e : t = j
              · subst e; rw [HY.out]; exact HK1.out
              · exact Hok.out t (by omega)
            case measure => simp [intOf]; omega
          · have HK1 := Lib.hid (show itemOk y = false by simpa using hk1)
            have HMz : Hid (M = zeroM) := Lib.hid (by rw [HM.out]; exact getM_no1 (j := j) (by rw [hx0.out, HK.out]; exact hlt) (by rw [HY.out]; exact HK1.out))
            clear hk1
            go_wp2_with fail
            refine (Item14_no y _ HYL.out HK1.out).mono ?_
            rintro e w4 ⟨rfl, hb34⟩
            have Hk4 : Hid (w4.heap[W.heap.size]? = some (.cells zeroMV 43 (0, 0))) := Lib.hid ((hb34.block _ (by omega)).trans Hzx.out)
            have B4 : Hid (Below W.heap.size W w4) := Lib.hid (Bx.out.trans (hb34.mono Bx.out.size))
            clear hb34 vg
            go_wp2_with (refine wpList_store_whole 43 rfl (.tmp 2) (.tmp 72) rfl W.heap.size zeroMV rfl rfl 43 zeroMV ((Below.heap_alloc _ _ _ (blt Hk4.out)).trans Hk4.out) info_msg rfl one_zeroMV ?_; intro w6 hk6 hg6)
            exact ret_cell Try.results27 rfl hk6 Try.underlying43 rfl info_msg rfl (GetPost.zero HMz.out ((B4.out.alloc B4.out.size _).trans (grownBy_below hg6 (Nat.le_refl _) (by have := B4.out.size; simp; omega))))
        · have hjn : j = kk := by omega
          subst hjn
          have j2 : ¬ (j : Int) < (j : Int) := by omega
          have HMs : Hid (M = ⟨g 1, wsG g q, isG g j⟩) := Lib.hid (by rw [HM.out, getM_yes (by rw [hx0.out, HN.out]; exact h8) (by rw [hx0.out, HK.out]; exact h2) (by rw [hx0.out, HK.out]; exact Hok.out), hx0.out, HN.out, HK.out])
          obtain ⟨q0, q1, q2⟩ := msg_cells H2.out.msg
          clear hlt hj
          go_wp2_with (refine wpList_store_whole 43 rfl (.tmp 2) (.tmp 79) rfl W.heap.size (msgV lb A' q c' B' j d') rfl rfl 43 zeroMV Hzx.out info_msg rfl (one_msgV _ _ _ _ _ _ _) ?_; intro w6 hk6 hg6)
          refine ret_cell Try.results27 rfl hk6 Try.underlying43 rfl info_msg rfl ?_
          rw [HLB.out]
          exact GetPost.some HMs.out (ownsRow_sl (ownsRow_gb (ownsRow_gb HL.out.own H2.out.way (by omega)) hg6 (by omega))) (ownsRow_sl (ownsRow_gb H2.out.own hg6 (by omega))) (Bx.out.trans (grownBy_below hg6 (Nat.le_refl _) Bx.out.size)) (ownsRow_fresh HL.out.own (by omega)) (ownsRow_fresh H2.out.own (by omega))
theorem rget_any (W : World) (gq o : Nat) (G : Nat → Nat) (ho : o + 32 ≤ 64) (h : QAt W gq G) : Calls Try.prog 27 #[.pointer (some ⟨gq, o, none⟩)] W (GetPost W (getM (vw G o))) := by
  by_cases hno : 8 < vw G o 0 % 16 ∨ 2 < vw G o 0 / 16
  · exact rget_no0 W gq o G ho h hno
  · exact rget_main W gq o G (vw G o) _ _ _ (Lib.hid fun _ => rfl) (Lib.hid rfl) (h.2.2 _) rfl rfl (by omega) (by omega) ho h
end Go.Proofs.Ytgacfgofpanchaa
