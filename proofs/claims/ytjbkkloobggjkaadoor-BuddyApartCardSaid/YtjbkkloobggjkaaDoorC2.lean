/- The walk of BuddyFits. Condition: the acts are read. -/
import Derived.Test.YtjbkkloobggjkaaDoorC1
namespace Go.Proofs.YtjbkkloobggjkaaDoor
open Go.RowKit Go.Maps

theorem leftB_app (L M : List (Nat × Nat)) : leftB (L ++ M) = leftB L + leftB M := by simp [leftB]
theorem leftB_both : ∀ (p : Nat) (l : List Tl), leftB (blks true p l) + leftB (blks false p l) = 1024 * span l
  | _, [] => by simp [blks, leftB, span]
  | p, t :: l => by
    have := leftB_both (p + 2 ^ t.1) l
    simp only [blks, span]
    by_cases h : t.2 = true
    · rw [if_pos h, if_neg (by rw [h]; decide)]
      simp only [leftB, List.map_cons, List.sum_cons] at this ⊢
      omega
    · rw [if_neg h, if_pos (by simpa using h)]
      simp only [leftB, List.map_cons, List.sum_cons] at this ⊢
      omega
theorem leftB_take2 {q k : Nat} {a c : List Tl} (h : q ≤ k) : leftB (blks true 0 (takeT q k a c)) + 1024 * 2 ^ q = leftB (blks true 0 (a ++ (k, true) :: c)) := by
  have h1 := leftB_both 0 (takeT q k a c)
  have h2 := leftB_both 0 (a ++ (k, true) :: c)
  have e : span (takeT q k a c) = span (a ++ (k, true) :: c) := by
    unfold takeT
    have := span_pieces q (k - q)
    rw [show q + (k - q) = k by omega] at this
    simp only [span_append, span]
    omega
  rw [take_used a c h, leftB_app] at h1
  rw [blks_used false a c k (by decide), leftB_app] at h2
  rw [e] at h1
  simp only [leftB, List.map_cons, List.sum_cons] at h1 h2 ⊢
  omega
/-- what is taken is given back -/
theorem give_take {top q k : Nat} {a c : List Tl} (hg : Good top (a ++ (k, true) :: c)) (h : q ≤ k) : giveC top (takeT q k a c) ((1024 * span a : Nat) : Int) = (0, a ++ (k, true) :: c) := by
  unfold giveC
  rw [if_pos (by omega)]
  have e : (((1024 * span a : Nat) : Int) / 1024).toNat = 0 + span a := by omega
  unfold takeT
  rw [e, findC_at]
  show ((0 : Int), melt (top - q) a.reverse q (pieces q (k - q) ++ c)) = _
  rw [take_give hg (k - q) q (by omega)]
set_option maxRecDepth 100000 in
theorem fits_long (A : Option Addr) (nl cap : Nat) (h : 100 < nl) (o : Int) (w : World) (hT : TabZ w) : Calls Tryd.prog 6 #[.slice A nl cap, .int .i64 o] w fun e w' => e = .returned (.bool true) ∧ Below w.heap.size w w' := by
  have i1 : (100 : Int) < (nl : Int) := by omega
  have HT := Lib.hid hT
  clear h hT
  go_enter Tryd.func6, Tryd.ntmps6
  go_wp2_with fail
  refine (alive_any _ HT.out).mono ?_
  rintro e w1 ⟨rfl, hb⟩
  have HB := Lib.hid hb
  clear hb
  go_wp2
  go_ret
  exact ⟨rfl, HB.out⟩
set_option maxRecDepth 100000 in
set_option maxHeartbeats 6400000 in
theorem fits_short (l : List (Int × Int)) (A : Option Addr) (nl cap : Nat) (hn : l.length = nl) (h : nl ≤ 100) (o : Int) (w : World) (hT : TabZ w) (hA : SlR w A (actCells l)) : Calls Tryd.prog 6 #[.slice A nl cap, .int .i64 o] w fun e w' => e = .returned (.bool true) ∧ Below w.heap.size w w' := by
  have i1 : (nl : Int) ≤ 100 := by omega
  have HT := Lib.hid hT
  have HA := Lib.hid hA
  have HN := Lib.hid hn
  clear hT hA hn h
  go_enter Tryd.func6, Tryd.ntmps6
  go_wp2_with fail
  refine (alive_any _ HT.out).mono ?_
  rintro e w1 ⟨rfl, hb⟩
  have HB := Lib.hid hb
  have TW : Hid (TabZ w1) := Lib.hid (HT.out.below HT.out.lt hb)
  have HA1 : Hid (SlR w1 A (actCells l)) := Lib.hid (HA.out.below hb)
  clear hb
  go_wp2_with fail
  refine (new_g 131072 7 131072 rfl (by decide) (by omega) (by omega) _ TW.out).mono ?_
  rintro e w2 ⟨b, gm, gw, mu, rfl, h2⟩
  have H2 := Lib.hid h2
  clear h2
  go_wp2_with fail
  go_loopw [6] (fun i wr => ∃ (k : Nat) (tl : List Tl), k ≤ nl ∧ i = .int .i64 (k : Int) ∧ BG w1 [] wr b 7 gm gw mu k tl) (fun i _ => nl - (intOf i).toNat)
  case atStart => exact ⟨0, _, Nat.zero_le _, rfl, H2.out⟩
  case round =>
    obtain ⟨k, tl, hk, rfl, h3⟩ := hrel
    have H3 := Lib.hid h3
    clear h3 H2
    by_cases hlt : k < nl
    · have i2 : (k : Int) < (nl : Int) := by omega
      have i0 : (0 : Int) ≤ (k : Int) := by omega
      have hkl : k < l.length := by rw [HN.out]; exact hlt
      go_wp2_with fail
      refine (used_g H3.out (by omega)).mono ?_
      rintro e w4 ⟨A2, m2, cap2, rfl, hm2, h4, _⟩
      obtain ⟨ab, ao, rfl, _, c0, c1⟩ := (HA1.out.below h4.way).act hkl
      obtain ⟨x1, hx1⟩ : ∃ x1, l[k].1 = x1 := ⟨_, rfl⟩
      obtain ⟨x2, hx2⟩ : ∃ x2, l[k].2 = x2 := ⟨_, rfl⟩
      rw [hx1] at c0
      rw [hx2] at c1
      have H4 := Lib.hid h4
      have HM2 := Lib.hid hm2
      have m0 : (0 : Int) ≤ (m2 : Int) := by omega
      clear h4 hm2 hx1 hx2 H3
      by_cases q0 : x1 = 0
      · have t0 : (x1 == 0) = true := by simp [q0]
        clear q0
        go_wp2_with fail
        refine (take_g H4.out TW.out x2 (by omega)).mono ?_
        rintro e w5 ⟨at_, er, tl', rfl, _, h5⟩
        have H5 := Lib.hid (h5.sub (S' := []) (fun s hs => absurd hs List.not_mem_nil))
        clear h5 c0 c1
        go_wp2
        go_roundw
        case rel => exact ⟨k + 1, tl', by omega, by go_num, H5.out⟩
        case measure => (try simp [intOf]) <;> omega
      · have t0 : (x1 == 0) = false := by simp [q0]
        have HE : Hid (BG w1 [] w4 b 7 gm gw mu (k + 1) tl) := Lib.hid ((H4.out.sub (S' := []) (fun s hs => absurd hs List.not_mem_nil)).mono (Nat.le_succ _))
        clear q0
        by_cases q1 : x2 < 0
        · have t1 : decide (0 ≤ x2) = false := decide_eq_false (by omega)
          clear q1
          go_wp2
          go_roundw
          case rel => exact ⟨k + 1, tl, by omega, by go_num, HE.out⟩
          case measure => (try simp [intOf]) <;> omega
        · have t1 : decide (0 ≤ x2) = true := decide_eq_true (by omega)
          by_cases q2 : 0 < m2
          · have t2 : (0 : Int) < (m2 : Int) := by omega
            have t3 : ¬ ((m2 : Int) = 0) := by omega
            obtain ⟨j, hj⟩ : ∃ j : Nat, j = (x2.tmod (m2 : Int)).toNat := ⟨_, rfl⟩
            have hjm := Int.emod_lt_of_pos x2 t2
            have hj0 := Int.emod_nonneg x2 t3
            have tj : x2.tmod (m2 : Int) = (j : Int) := by
              rw [Int.tmod_eq_emod_of_nonneg (by omega)] at hj ⊢
              omega
            have j0 : (0 : Int) ≤ (j : Int) := by omega
            have j1 : (j : Int) < (m2 : Int) := by
              rw [← tj, Int.tmod_eq_emod_of_nonneg (by omega)]
              exact hjm
            have hjl : j < (blks false 0 tl).length := by rw [← HM2.out]; omega
            obtain ⟨ub, uo, rfl, _, d0, d1⟩ := (H4.out.held List.mem_cons_self).sl.blk' hjl
            have hmem := List.getElem_mem hjl
            obtain ⟨X, hX⟩ : ∃ X : Int, ((1024 * ((blks false 0 tl)[j]).1 : Nat) : Int) = X := ⟨_, rfl⟩
            rw [hX] at d0
            have hwf : Hid ((Lit.int .i64 X).wf = true) := Lib.hid (WalkArith.wf_i64 (by
              have h1 := (blks_lt hmem).2
              have h2 := H4.out.good.all
              have h3 : (2 : Nat) ^ 7 = 128 := by decide
              rw [h3] at h2
              have := two_pos ((blks false 0 tl)[j]).2
              omega))
            clear hj hjm hj0 hjl hmem hX q1 q2 d1
            go_wp2_with fail
            refine (give_g H4.out X hwf.out).mono ?_
            rintro e w5 ⟨er, tl', rfl, _, h5⟩
            have H5 := Lib.hid ((h5.sub (S' := []) (fun s hs => absurd hs List.not_mem_nil)).mono (Nat.le_succ k))
            clear h5 c0 c1 d0
            go_wp2
            go_roundw
            case rel => exact ⟨k + 1, tl', by omega, by go_num, H5.out⟩
            case measure => (try simp [intOf]) <;> omega
          · have t2 : ¬ ((0 : Int) < (m2 : Int)) := by omega
            clear q1 q2
            go_wp2
            go_roundw
            case rel => exact ⟨k + 1, tl, by omega, by go_num, HE.out⟩
            case measure => (try simp [intOf]) <;> omega
    · have i2 : ¬ ((k : Int) < (nl : Int)) := by omega
      have hn3 : k ≤ 100 := by omega
      clear hk hlt
      go_wp2_with fail
      refine (free_g H3.out TW.out).mono ?_
      rintro e w4 ⟨A4, m4, cap4, rfl, hm4, h4, _⟩
      have H4 := Lib.hid h4
      have HM4 := Lib.hid hm4
      clear h4 hm4 H3
      go_wp2_with fail
      refine (used_g H4.out (by omega)).mono ?_
      rintro e w5 ⟨A5, m5, cap5, rfl, hm5, h5, _⟩
      have H5 := Lib.hid h5
      have HM5 := Lib.hid hm5
      clear h5 hm5 H4
      go_wp2_with fail
      refine (left_g H5.out TW.out).mono ?_
      rintro e w6 ⟨rfl, h6, _⟩
      have H6 := Lib.hid h6
      clear h6 H5
      go_wp2_with fail
      refine (greatest_g H6.out).mono ?_
      rintro e w' ⟨gr, rfl, hgr, rfl⟩
      have HGr := Lib.hid hgr
      clear hgr
      rename World => w7
      go_wp2_with fail
      refine (take_g H6.out TW.out o (by omega)).mono ?_
      rintro e w8 ⟨at_, er, tl', rfl, htk, h8⟩
      have H8 := Lib.hid h8
      clear h8
      rcases htk with ⟨ho, rfl, rfl, rfl⟩ | ⟨q, ho, hq, ⟨hall, rfl, rfl, rfl⟩ | ⟨kk, a, c, rfl, hqk, hmin, hlow, rfl, rfl, rfl⟩⟩
      · have HW := Lib.hid (HB.out.trans (H8.out.way.mono HB.out.size))
        by_cases ho1 : o < 0
        · have t1 : decide (o < 0) = true := decide_eq_true ho1
          clear ho ho1
          go_wp2
          go_ret
          exact ⟨rfl, HW.out⟩
        · have t1 : decide (o < 0) = false := decide_eq_false ho1
          have t2 : decide (7 < o) = true := decide_eq_true (by omega)
          clear ho ho1
          go_wp2
          go_ret
          exact ⟨rfl, HW.out⟩
      · have t1 : decide (o < 0) = false := decide_eq_false (by omega)
        have t2 : decide (7 < o) = false := decide_eq_false (by omega)
        have t3 : decide (o ≤ gr) = false := decide_eq_false (by
          rcases HGr.out with ⟨rfl, _⟩ | ⟨kg, rfl, _, ⟨x, hx, hk2⟩, _⟩
          · omega
          · have := hall x hx
            omega)
        clear ho hq hall
        go_wp2_with fail
        refine (free_g H8.out TW.out).mono ?_
        rintro e w9 ⟨A9, m9, cap9, rfl, hm9, h9, _⟩
        have H9 := Lib.hid h9
        have HM9 := Lib.hid hm9
        have e94 : m9 = m4 := by rw [hm9, HM4.out]
        clear h9 hm9 H8
        subst e94
        go_wp2_with fail
        refine (same_g H9.out _ A9 A4 List.mem_cons_self (List.mem_cons_of_mem _ (List.mem_cons_of_mem _ List.mem_cons_self)) m9 cap9 cap4 HM9.out (H9.out.len true)).mono ?_
        rintro e w10 ⟨rfl, h10, _⟩
        have H10 := Lib.hid h10
        clear h10 H9
        go_wp2_with fail
        refine (used_g H10.out (by omega)).mono ?_
        rintro e w11 ⟨A11, m11, cap11, rfl, hm11, h11, _⟩
        have H11 := Lib.hid h11
        have HM11 := Lib.hid hm11
        have e115 : m11 = m5 := by rw [hm11, HM5.out]
        clear h11 hm11 H10
        subst e115
        go_wp2_with fail
        refine (same_g H11.out _ A11 A5 List.mem_cons_self (List.mem_cons_of_mem _ (List.mem_cons_of_mem _ List.mem_cons_self)) m11 cap11 cap5 HM11.out (H11.out.len false)).mono ?_
        rintro e w12 ⟨rfl, h12, _⟩
        have H12 := Lib.hid h12
        clear h12 H11
        go_wp2_with fail
        refine (left_g H12.out TW.out).mono ?_
        rintro e w13 ⟨rfl, h13, _⟩
        have HW := Lib.hid (HB.out.trans (h13.way.mono HB.out.size))
        clear h13 H12
        go_wp2
        go_ret
        exact ⟨by simp, HW.out⟩
      · have t1 : decide (o < 0) = false := decide_eq_false (by omega)
        have t2 : decide (7 < o) = false := decide_eq_false (by omega)
        have t3 : decide (o ≤ gr) = true := decide_eq_true (by
          have hm := blks_at true 0 a c kk
          rw [Nat.zero_add] at hm
          rcases HGr.out with ⟨_, hnil⟩ | ⟨kg, rfl, _, _, hx⟩
          · rw [hnil] at hm
            exact absurd hm List.not_mem_nil
          · have := hx _ hm
            simp only at this
            omega)
        have hg0 := H6.out.good
        have hlt2 := leftB_take2 (a := a) (c := c) hqk
        have hle2 := leftB_span true 0 (a ++ (kk, true) :: c)
        rw [hg0.all] at hle2
        have hgc := give_take hg0 hqk
        have hspa : 1024 * span a < 1073741824 := by
          have := hg0.all
          rw [span_append] at this
          have h7 : (2 : Nat) ^ 7 = 128 := by decide
          rw [h7] at this
          omega
        obtain ⟨X, hX⟩ : ∃ X : Int, ((1024 * span a : Nat) : Int) = X := ⟨_, rfl⟩
        rw [hX] at hgc ⊢
        obtain ⟨L0, hL0⟩ : ∃ L0 : Int, ((leftB (blks true 0 (a ++ (kk, true) :: c)) : Nat) : Int) = L0 := ⟨_, rfl⟩
        obtain ⟨Z, hZ⟩ : ∃ Z : Int, Z = ((1024 * 2 ^ q : Nat) : Int) := ⟨_, rfl⟩
        have hpq : 2 ^ q ≤ 2 ^ 7 := Nat.pow_le_pow_right (by decide) hq
        have h7 : (2 : Nat) ^ 7 = 128 := by decide
        rw [h7] at hpq hle2
        obtain ⟨L1, hL1⟩ : ∃ L1 : Int, ((leftB (blks true 0 (takeT q kk a c)) : Nat) : Int) = L1 := ⟨_, rfl⟩
        have hs : ∀ w, (Op.shift .shl .i64 1024 .u64 o).run Tryd.prog w = .ok (.int .i64 Z) w := fun w => run_shlu 1024 q _ _ _ rfl ho hZ (by omega) (by omega) w
        have zo : IntKind.u64.wrap o = o := by rw [IntKind.wrap_u64]; omega
        have zl : IntKind.i64.wrap (L0 - Z) = L1 := by rw [IntKind.wrap_i64]; omega
        have zn : (L1 != L1) = false := by simp
        have hwf : Hid ((Lit.int .i64 X).wf = true) := Lib.hid (WalkArith.wf_i64 (by omega))
        have HGC := Lib.hid hgc
        have HL0 := Lib.hid hL0
        have HL1 := Lib.hid hL1
        rw [hL0]
        clear ho hq hmin hlow hqk hg0 hlt2 hle2 hgc hspa hX hL0 hZ hpq h7 hL1
        go_wp2_with fail
        refine (left_g H8.out TW.out).mono ?_
        rintro e w9 ⟨rfl, h9, _⟩
        rw [HL1.out]
        have H9 := Lib.hid h9
        clear h9 H8
        go_wp2_with fail
        refine (give_l H9.out X hwf.out 0 _ HGC.out).mono ?_
        rintro e w10 ⟨rfl, h10⟩
        have H8 := Lib.hid h10
        clear h10 H9
        go_wp2_with fail
        refine (free_g H8.out TW.out).mono ?_
        rintro e w9 ⟨A9, m9, cap9, rfl, hm9, h9, _⟩
        have H9 := Lib.hid h9
        have HM9 := Lib.hid hm9
        have e94 : m9 = m4 := by rw [hm9, HM4.out]
        clear h9 hm9 H8
        subst e94
        go_wp2_with fail
        refine (same_g H9.out _ A9 A4 List.mem_cons_self (List.mem_cons_of_mem _ (List.mem_cons_of_mem _ List.mem_cons_self)) m9 cap9 cap4 HM9.out (H9.out.len true)).mono ?_
        rintro e w10 ⟨rfl, h10, _⟩
        have H10 := Lib.hid h10
        clear h10 H9
        go_wp2_with fail
        refine (used_g H10.out (by omega)).mono ?_
        rintro e w11 ⟨A11, m11, cap11, rfl, hm11, h11, _⟩
        have H11 := Lib.hid h11
        have HM11 := Lib.hid hm11
        have e115 : m11 = m5 := by rw [hm11, HM5.out]
        clear h11 hm11 H10
        subst e115
        go_wp2_with fail
        refine (same_g H11.out _ A11 A5 List.mem_cons_self (List.mem_cons_of_mem _ (List.mem_cons_of_mem _ List.mem_cons_self)) m11 cap11 cap5 HM11.out (H11.out.len false)).mono ?_
        rintro e w12 ⟨rfl, h12, _⟩
        have H12 := Lib.hid h12
        clear h12 H11
        go_wp2_with fail
        refine (left_g H12.out TW.out).mono ?_
        rintro e w13 ⟨rfl, h13, _⟩
        have HW := Lib.hid (HB.out.trans (h13.way.mono HB.out.size))
        clear h13 H12
        go_wp2
        go_ret
        exact ⟨by simp [HL0.out], HW.out⟩
theorem fits_any (l : List (Int × Int)) (A : Option Addr) (cap : Nat) (o : Int) (w : World) (hT : TabZ w) (hA : SlR w A (actCells l)) : Calls Tryd.prog 6 #[.slice A l.length cap, .int .i64 o] w fun e w' => e = .returned (.bool true) ∧ Below w.heap.size w w' := by
  by_cases h : 100 < l.length
  · exact fits_long A _ cap h o w hT
  · exact fits_short l A _ cap rfl (by omega) o w hT hA
end Go.Proofs.YtjbkkloobggjkaaDoor
