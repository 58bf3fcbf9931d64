/- The walk of BuddyActs, where the size may be. Condition: the acts are read. -/
import Derived.Test.YtjbkkloobggjkaaDoorD1
namespace Go.Proofs.YtjbkkloobggjkaaDoor
open Go.RowKit Go.Maps

set_option maxRecDepth 100000 in
set_option maxHeartbeats 12800000 in
theorem acts_go (N top : Nat) (n0 : Int) (hNN : n0 = (N : Int)) (hN : N = 1024 * 2 ^ top) (h6 : 6 ≤ top) (ht : top ≤ 10) (hmay : ∀ p : Nat, MayS n0 p → (p : Int) = n0) (l : List (Int × Int)) (A : Option Addr) (nl cap : Nat) (hn : l.length = nl) (h : nl ≤ 100) (w : World) (hT : TabZ w) (hA : SlR w A (actCells l)) (hwf : ∀ x ∈ l, (Lit.int .i64 x.2).wf = true) : Calls Tryd.prog 3 #[.int .i64 n0, .slice A nl cap] w fun e w' => e = .returned (.bool true) ∧ Below w.heap.size w w' := by
  have i1 : ¬ (100 : Int) < (nl : Int) := by omega
  have htp : 2 ^ top ≤ 2 ^ 10 := Nat.pow_le_pow_right (by decide) ht
  have t1 : decide (1048576 < n0) = false := decide_eq_false (by omega)
  have HT := Lib.hid hT
  have HA := Lib.hid hA
  have HN := Lib.hid hn
  have HWF := Lib.hid hwf
  have HMY := Lib.hid hmay
  have HNN := Lib.hid hNN
  have HNE := Lib.hid hN
  have H6 := Lib.hid h6
  have HTP : Hid (top ≤ 20) := Lib.hid (by omega)
  have HNL := Lib.hid h
  clear hT hA hn hwf hmay hNN hN h6 ht h htp
  go_enter Tryd.func3, Tryd.ntmps3
  go_wp2_with fail
  refine (alive_any _ HT.out).mono ?_
  rintro e w1 ⟨rfl, hb⟩
  have HB := Lib.hid hb
  have TW : Hid (TabZ w1) := Lib.hid (HT.out.below HT.out.lt hb)
  have HA1 : Hid (SlR w1 A (actCells l)) := Lib.hid (HA.out.below hb)
  clear hb
  go_wp2_with fail
  refine (new_g N top n0 HNN.out HNE.out H6.out HTP.out _ TW.out).mono ?_
  rintro e w2 ⟨b, gm, gw, mu, rfl, h2⟩
  have H2 := Lib.hid h2
  clear h2
  go_wp2_with fail
  refine (rmay_any n0 _).mono ?_
  rintro e w3 ⟨p, rfl, hp, hw3⟩
  have hw3' := hw3.symm
  clear hw3
  subst hw3'
  have hpe : ((p : Int) == n0) = true := by simpa using HMY.out p hp
  rw [hpe]
  clear hpe hp
  go_wp2_with fail
  refine (rnew_any N top n0 HNN.out HNE.out HTP.out _).mono ?_
  rintro e w3 ⟨g, A1, c1, A2, c2, rfl, hg, hrb, hb3⟩
  have h3 : AC w1 w3 b top gm gw mu 0 [(top, true)] g A1 c1 A2 c2 [(top, true)] := AC.of (H2.out.below hb3) (by
    have e1 : blks true 0 [(top, true)] = [(0, top)] := by simp [blks]
    have e2 : blks false 0 [(top, true)] = [] := by simp [blks]
    rw [e1, e2]
    exact hrb) (Nat.le_trans H2.out.way.size hg)
  have H3 := Lib.hid h3
  clear h3 hg hrb hb3 H2
  go_wp2_with fail
  go_loopw [9] (fun i wr => ∃ (k : Nat) (r : List Tl) (A1 : Option Addr) (c1 : Nat) (A2 : Option Addr) (c2 : Nat), k ≤ nl ∧ i = .int .i64 (k : Int) ∧ AC w1 wr b top gm gw mu k r g A1 c1 A2 c2 r) (fun i _ => nl - (intOf i).toNat)
  case atStart => exact ⟨0, _, _, _, _, _, Nat.zero_le _, rfl, H3.out⟩
  case round =>
    obtain ⟨k, r, A1, c1, A2, c2, hk, rfl, h4⟩ := hrel
    have H4 := Lib.hid h4
    clear H3
    by_cases hlt : k < nl
    · have i2 : (k : Int) < (nl : Int) := by omega
      have i0 : (0 : Int) ≤ (k : Int) := by omega
      have hkl : k < l.length := by rw [HN.out]; exact hlt
      obtain ⟨ab, ao, rfl, _, d0, d1⟩ := (HA1.out.below h4.way).act hkl
      have hw2 := HWF.out l[k] (List.getElem_mem hkl)
      obtain ⟨x1, hx1⟩ : ∃ x1, l[k].1 = x1 := ⟨_, rfl⟩
      obtain ⟨x2, hx2⟩ : ∃ x2, l[k].2 = x2 := ⟨_, rfl⟩
      rw [hx1] at d0
      rw [hx2] at d1 hw2
      have HW2 := Lib.hid hw2
      have k100 : Hid (k + 1 < 1000) := Lib.hid (by have := HNL.out; omega)
      have kle : Hid (k + 1 ≤ nl) := Lib.hid hlt
      have k2 := h4.rb.r2
      clear h4 hx1 hx2 hw2 hkl hk hlt
      go_upto_block 2 with fail
      go_cut [11, 12, 13, 14, 15, 16] from 84 to 157 (fun s _ _ _ _ _ wx => s = .bool true ∧ ∃ (r : List Tl) (A1 : Option Addr) (c1 : Nat) (A2 : Option Addr) (c2 : Nat), AC w1 wx b top gm gw mu (k + 1) r g A1 c1 A2 c2 r)
      case first =>
        by_cases q0 : x1 = 0
        · have t0 : (x1 == 0) = true := by simp [q0]
          obtain ⟨at_, er, r', hc⟩ : ∃ at_ er r', takeC top r x2 = (at_, er, r') := ⟨_, _, _, rfl⟩
          have HC := Lib.hid hc
          clear q0 hc k2
          go_wp2_with fail
          refine (atake H4.out TW.out (by have := k100.out; omega) x2 at_ er r' HC.out).mono ?_
          rintro e w5 ⟨rfl, h5⟩
          have H5 := Lib.hid h5
          clear h5
          go_wp2_with fail
          refine (artake H5.out H4.out.bg.good x2 at_ er r' HC.out).mono ?_
          rintro e w6 ⟨rfl, B1, e1, B2, e2, h6⟩
          have H6 := Lib.hid h6
          clear h6 d0 d1
          go_wp2
          go_meet
          exact ⟨rfl, r', B1, e1, B2, e2, H6.out⟩
        · have t0 : (x1 == 0) = false := by simp [q0]
          by_cases q1 : x1 = 1
          · have s1 : (x1 == 1) = true := by simp [q1]
            obtain ⟨er, r', hc⟩ : ∃ er r', giveC top r x2 = (er, r') := ⟨_, _, rfl⟩
            have HC := Lib.hid hc
            clear q0 q1 hc k2
            go_wp2_with fail
            refine (agive H4.out x2 HW2.out er r' HC.out).mono ?_
            rintro e w5 ⟨rfl, h5⟩
            have H5 := Lib.hid h5
            clear h5
            go_wp2_with fail
            refine (argive H5.out H4.out.bg.good x2 er r' HC.out).mono ?_
            rintro e w6 ⟨rfl, B1, e1, B2, e2, h6⟩
            have H6 := Lib.hid (h6.mono (Nat.le_succ k))
            clear h6 d0 d1
            go_wp2
            go_meet
            exact ⟨rfl, r', B1, e1, B2, e2, H6.out⟩
          · have s1 : (x1 == 1) = false := by simp [q1]
            have HE := Lib.hid (H4.out.mono (Nat.le_succ k))
            by_cases q2 : x1 = 2
            · have s2 : (x1 == 2) = true := by simp [q2]
              by_cases q3 : x2 < 0
              · have s3 : decide (0 ≤ x2) = false := decide_eq_false (by omega)
                clear q0 q1 q2 q3
                go_wp2
                go_meet
                exact ⟨rfl, r, A1, c1, A2, c2, HE.out⟩
              · have s3 : decide (0 ≤ x2) = true := decide_eq_true (by omega)
                obtain ⟨m2, hm2⟩ : ∃ m2, (blks false 0 r).length = m2 := ⟨_, rfl⟩
                rw [hm2] at k2
                by_cases q4 : 0 < m2
                · have s4 : (0 : Int) < (m2 : Int) := by omega
                  have s5 : ¬ ((m2 : Int) = 0) := by omega
                  obtain ⟨j, hj⟩ : ∃ j : Nat, j = (x2.tmod (m2 : Int)).toNat := ⟨_, rfl⟩
                  have hjm := Int.emod_lt_of_pos x2 s4
                  have hj0 := Int.emod_nonneg x2 s5
                  have tj : x2.tmod (m2 : Int) = (j : Int) := by
                    rw [Int.tmod_eq_emod_of_nonneg (by omega)] at hj ⊢
                    omega
                  have j0 : (0 : Int) ≤ (j : Int) := by omega
                  have j1 : (j : Int) < (m2 : Int) := by
                    rw [← tj, Int.tmod_eq_emod_of_nonneg (by omega)]
                    exact hjm
                  have hjl : j < (blks false 0 r).length := by rw [hm2]; omega
                  obtain ⟨ub, uo, rfl, _, u0, u1⟩ := H4.out.rb.u.sl.blk' hjl
                  have hmem := List.getElem_mem hjl
                  obtain ⟨X, hX⟩ : ∃ X : Int, ((1024 * ((blks false 0 r)[j]).1 : Nat) : Int) = X := ⟨_, rfl⟩
                  rw [hX] at u0
                  have HXW : Hid ((Lit.int .i64 X).wf = true) := Lib.hid (WalkArith.wf_i64 (by
                    have h1 := (blks_lt hmem).2
                    have h2 := H4.out.bg.good.all
                    have h3 : 2 ^ top ≤ 2 ^ 20 := Nat.pow_le_pow_right (by decide) HTP.out
                    have := two_pos ((blks false 0 r)[j]).2
                    omega))
                  obtain ⟨er, r', hc⟩ : ∃ er r', giveC top r X = (er, r') := ⟨_, _, rfl⟩
                  have HC := Lib.hid hc
                  clear q0 q1 q2 q3 q4 hm2 hj hjm hj0 hjl hmem hX u1 hc
                  go_wp2_with fail
                  go_quiet (fail)
                  have HD := Lib.hid (H4.out.below (below_drewN (Below.refl _ _) nq))
                  clear k2 u0 d0 d1
                  go_wp2_with fail
                  refine (agive HD.out X HXW.out er r' HC.out).mono ?_
                  rintro e w5 ⟨rfl, h5⟩
                  have H5 := Lib.hid h5
                  clear h5
                  go_wp2_with fail
                  refine (argive H5.out H4.out.bg.good X er r' HC.out).mono ?_
                  rintro e w6 ⟨rfl, B1, e1, B2, e2, h6⟩
                  have H6 := Lib.hid (h6.mono (Nat.le_succ k))
                  clear h6
                  go_wp2
                  go_meet
                  exact ⟨rfl, r', B1, e1, B2, e2, H6.out⟩
                · have s4 : ¬ ((0 : Int) < (m2 : Int)) := by omega
                  clear q0 q1 q2 q3 q4 hm2
                  go_wp2
                  go_meet
                  exact ⟨rfl, r, A1, c1, A2, c2, HE.out⟩
            · have s2 : (x1 == 2) = false := by simp [q2]
              clear q0 q1 q2
              go_wp2
              go_meet
              exact ⟨rfl, r, A1, c1, A2, c2, HE.out⟩
      case rest =>
        obtain ⟨rfl, r, A1, c1, A2, c2, h5⟩ := hcut
        obtain ⟨LB, hLB⟩ : ∃ LB : Int, ((leftB (blks true 0 r) : Nat) : Int) = LB := ⟨_, rfl⟩
        obtain ⟨TC, hTC⟩ : ∃ TC : Int, topC r = TC := ⟨_, rfl⟩
        obtain ⟨OR, hOR⟩ : ∃ OR : Int, orderC r x2 = OR := ⟨_, rfl⟩
        obtain ⟨m1, hm1⟩ : ∃ m1, (blks true 0 r).length = m1 := ⟨_, rfl⟩
        obtain ⟨m2, hm2⟩ : ∃ m2, (blks false 0 r).length = m2 := ⟨_, rfl⟩
        have HLB := Lib.hid hLB
        have HTC := Lib.hid hTC
        have HOR := Lib.hid hOR
        have HM1 := Lib.hid hm1
        have HM2 := Lib.hid hm2
        have H5 := Lib.hid h5
        have nL : (LB != LB) = false := by simp
        have nT : (TC != TC) = false := by simp
        have nO : (OR != OR) = false := by simp
        have KS : Hid (∀ w', AC w1 w' b top gm gw mu (k + 1) r g A1 c1 A2 c2 r → w'.cell? ⟨g, 1, none⟩ = some (.slice A1 m1 c1) ∧ w'.cell? ⟨g, 2, none⟩ = some (.slice A2 m2 c2)) := Lib.hid (fun w' h => ⟨by rw [← HM1.out]; exact h.rb.r1, by rw [← HM2.out]; exact h.rb.r2⟩)
        clear h5 d0 d1 k2 H4 hLB hTC hOR hm1 hm2
        go_wp2_with fail
        refine (arleft H5.out LB TC HLB.out HTC.out).mono ?_
        rintro e w6 ⟨rfl, hw6⟩
        have hw7 := hw6.symm
        clear hw6
        subst hw7
        go_wp2_with fail
        have hd := H5.out.below (Below.refl _ _).drew
        go_region_held3 (fun w' => w'.cell? ⟨g, 1, none⟩ = some (.slice A1 m1 c1) ∧ w'.cell? ⟨g, 2, none⟩ = some (.slice A2 m2 c2)) (first | (exact KS.out _ (by assumption))) (first | (go_at_call 15; (with_reducible refine (aleft (by assumption) TW.out LB HLB.out).mono ?_); rintro e w7 ⟨rfl, h7⟩) | (go_at_call 16; (with_reducible refine (agreat (by assumption) TC HTC.out).mono ?_); rintro e w8 ⟨rfl, rfl⟩) | (go_at_call 12; (with_reducible refine (aorder (by assumption) x2 HW2.out OR HOR.out).mono ?_); rintro e w8 ⟨rfl, rfl⟩) | (go_at_call 21; (with_reducible refine (arorder (by assumption) x2 OR HOR.out).mono ?_); rintro e w8 ⟨rfl, rfl⟩) | (go_at_call 13; (with_reducible refine (afree (by assumption) TW.out m1 HM1.out).mono ?_); rintro e w9 ⟨A9, k9, rfl, hh9, h9⟩) | (go_at_call 14; (with_reducible refine (aused (by assumption) k100.out m2 HM2.out).mono ?_); rintro e w11 ⟨A11, k11, rfl, hh11, h11⟩) | (go_at_call 22; (with_reducible refine (asameF (by assumption) m1 HM1.out _ _ (by assumption)).mono ?_); rintro e w10 ⟨rfl, h10⟩) | (go_at_call 22; (with_reducible refine (asameU (by assumption) m2 HM2.out _ _ (by assumption)).mono ?_); rintro e w12 ⟨rfl, h12⟩))
        have H12 := Lib.hid h12
        clear h7 hh9 h9 h10 hh11 h11 h12 hd
        go_wp2
        go_roundw
        case rel => exact ⟨k + 1, r, A1, c1, A2, c2, kle.out, by go_num, H12.out⟩
        case measure => have := kle.out; (try simp [intOf]) <;> omega
    · have i2 : ¬ ((k : Int) < (nl : Int)) := by omega
      have HW := Lib.hid (HB.out.trans (h4.way.mono HB.out.size))
      clear hk hlt h4 H4
      go_wp2
      go_ret
      exact ⟨rfl, HW.out⟩
theorem acts_any (l : List (Int × Int)) (A : Option Addr) (cap : Nat) (n0 : Int) (w : World) (hT : TabZ w) (hA : SlR w A (actCells l)) (hwf : ∀ x ∈ l, (Lit.int .i64 x.2).wf = true) : Calls Tryd.prog 3 #[.int .i64 n0, .slice A l.length cap] w fun e w' => e = .returned (.bool true) ∧ Below w.heap.size w w' := by
  by_cases h : 100 < l.length
  · exact acts_long n0 A _ cap h w hT
  by_cases h1 : 1048576 < n0 ∧ n0 ≤ 1073741824
  · exact acts_mid n0 A _ cap (by omega) h1.1 h1.2 w hT
  rcases size_cases n0 with ⟨t, ht, e⟩ | ⟨h2, h3⟩
  · have t4 : t ≤ 4 := by
      rcases Nat.lt_or_ge 4 t with q | q
      · have h5 : 2 ^ 5 ≤ 2 ^ t := Nat.pow_le_pow_right (by decide) q
        have := pow_bound t ht
        omega
      · exact q
    have e2 : 65536 * 2 ^ t = 1024 * 2 ^ (t + 6) := by rw [Nat.pow_add]; omega
    exact acts_go (65536 * 2 ^ t) (t + 6) n0 e e2 (by omega) (by omega) (fun p hp => by rw [e] at hp ⊢; exact may_pow ht hp) l A _ cap rfl (by omega) w hT hA hwf
  · exact acts_nil n0 A _ cap (by omega) h1 h2 h3 w hT
end Go.Proofs.YtjbkkloobggjkaaDoor
