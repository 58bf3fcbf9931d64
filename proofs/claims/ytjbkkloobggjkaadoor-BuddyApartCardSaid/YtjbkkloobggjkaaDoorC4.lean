/- The walk of BuddyApart. Condition: the acts are read. -/
import Derived.Test.YtjbkkloobggjkaaDoorC3
namespace Go.Proofs.YtjbkkloobggjkaaDoor
open Go.RowKit Go.Maps

/-- free blocks of one order have not the same parent -/
theorem apart_law {top o x1 x2 : Nat} {l : List Tl} (hg : Good top l) (h1 : (x1, o) ∈ blks true 0 l) (h2 : (x2, o) ∈ blks true 0 l) (hlt : x1 < x2) : x1 / 2 ^ o / 2 ≠ x2 / 2 ^ o / 2 := fun he => by
  obtain ⟨a, c, e1, p1⟩ := blks_mem h1
  obtain ⟨a', c', e2, p2⟩ := blks_mem h2
  simp only [Nat.zero_add] at p1 p2 e1 e2
  have m1 : x1 / 2 ^ o * 2 ^ o = x1 := by
    have h := (Mid.of_good (by rw [← e1]; exact hg)).place.1
    rw [span_rev] at h
    rw [p1]; exact h
  have m2 : x2 / 2 ^ o * 2 ^ o = x2 := by
    have h := (Mid.of_good (by rw [← e2]; exact hg)).place.1
    rw [span_rev] at h
    rw [p2]; exact h
  have hq : x1 / 2 ^ o < x2 / 2 ^ o := by
    by_cases q : x1 / 2 ^ o < x2 / 2 ^ o
    · exact q
    · have := Nat.mul_le_mul_right (2 ^ o) (show x2 / 2 ^ o ≤ x1 / 2 ^ o by omega)
      omega
  have hs : x2 / 2 ^ o = x1 / 2 ^ o + 1 ∧ x1 / 2 ^ o % 2 = 0 := by omega
  have m3 : x2 = x1 + 2 ^ o := by rw [← m2, hs.1, Nat.add_mul, Nat.one_mul, m1]
  have hz : x1 % 2 ^ o = 0 := by
    rw [← m1]
    exact Nat.mul_mod_left _ _
  have hev := even_mod hz hs.2
  obtain ⟨e3, _, e4⟩ := tile_one (a := a ++ [(o, true)]) (a' := a') (t := (o, true)) (t' := (o, true)) (b := c.tail) (b' := c') (by
    rw [← e2, e1]
    cases c with
    | nil =>
      exfalso
      rw [e1] at e2
      have hsp := congrArg span e2
      simp only [span_append, span] at hsp
      have := two_pos o
      omega
    | cons t c =>
      have e5 : (a ++ [(o, true)]) ++ t :: c = a' ++ (o, true) :: c' := by rw [← e2, e1]; simp
      obtain ⟨_, e6, _⟩ := tile_one e5 (by simp only [span_append, span]; omega)
      rw [e6]
      simp) (by simp only [span_append, span]; omega)
  have e7 : l = a ++ (o, true) :: (o, true) :: c' := by rw [e2, ← e3]; simp
  have hap := hg.apart
  rw [e7] at hap
  have := (apart_append hap).2
  refine this.1 (o, true) c' rfl ⟨rfl, rfl, ?_⟩
  rw [Nat.zero_add, ← p1]
  exact hev
/-- the order of what was just taken -/
theorem order_taken (q k : Nat) (a c : List Tl) : orderC (takeT q k a c) ((1024 * span a : Nat) : Int) = (q : Int) := by
  unfold orderC
  rw [if_pos (by omega)]
  have e : (((1024 * span a : Nat) : Int) / 1024).toNat = 0 + span a := by omega
  unfold takeT
  rw [e, findC_at]
theorem taken_lies {top q k : Nat} {a c : List Tl} (hg : Good top (a ++ (k, true) :: c)) (h : q ≤ k) : span a % 2 ^ q = 0 := by
  have m1 := (Mid.of_good hg).place.1
  rw [span_rev] at m1
  refine pow_dvd_mod h ?_
  rw [← m1]
  exact Nat.mul_mod_left _ _
theorem div_1024 (x o : Nat) (X Z : Int) (hX : X = ((1024 * x : Nat) : Int)) (hZ : Z = ((1024 * 2 ^ o : Nat) : Int)) : X.tdiv Z = ((x / 2 ^ o : Nat) : Int) := by
  rw [hX, hZ, Int.tdiv_eq_ediv_of_nonneg (by omega), ← Int.natCast_ediv, Nat.mul_div_mul_left _ _ (by decide)]
theorem div_two (x : Nat) : ((x : Nat) : Int).tdiv 2 = ((x / 2 : Nat) : Int) := by
  rw [Int.tdiv_eq_ediv_of_nonneg (by omega)]
  omega
set_option maxRecDepth 100000 in
theorem apart_long (A : Option Addr) (nl cap : Nat) (h : 100 < nl) (w : World) (hT : TabZ w) : Calls Tryd.prog 5 #[.slice A nl cap] w fun e w' => e = .returned (.bool true) ∧ Below w.heap.size w w' := by
  have i1 : (100 : Int) < (nl : Int) := by omega
  have HT := Lib.hid hT
  clear h hT
  go_enter Tryd.func5, Tryd.ntmps5
  go_wp2_with fail
  refine (alive_any _ HT.out).mono ?_
  rintro e w1 ⟨rfl, hb⟩
  have HB := Lib.hid hb
  clear hb
  go_wp2
  go_ret
  exact ⟨rfl, HB.out⟩
set_option maxRecDepth 100000 in
set_option maxHeartbeats 6400000 in
theorem apart_short (l : List (Int × Int)) (A : Option Addr) (nl cap : Nat) (hn : l.length = nl) (h : nl ≤ 100) (w : World) (hT : TabZ w) (hA : SlR w A (actCells l)) : Calls Tryd.prog 5 #[.slice A nl cap] w fun e w' => e = .returned (.bool true) ∧ Below w.heap.size w w' := by
  have i1 : (nl : Int) ≤ 100 := by omega
  have HT := Lib.hid hT
  have HA := Lib.hid hA
  have HN := Lib.hid hn
  clear hT hA hn h
  go_enter Tryd.func5, Tryd.ntmps5
  go_wp2_with fail
  refine (alive_any _ HT.out).mono ?_
  rintro e w1 ⟨rfl, hb⟩
  have HB := Lib.hid hb
  have TW : Hid (TabZ w1) := Lib.hid (HT.out.below HT.out.lt hb)
  have HA1 : Hid (SlR w1 A (actCells l)) := Lib.hid (HA.out.below hb)
  clear hb
  go_wp2_with fail
  refine (new_g 131072 7 131072 rfl (by decide) (by omega) (by omega) _ TW.out).mono ?_
  rintro e w2 ⟨b, gm, gw, mu, rfl, h2⟩
  have H2 := Lib.hid h2
  clear h2
  go_wp2_with fail
  go_loopw [4] (fun i wr => ∃ (k : Nat) (tl : List Tl), k ≤ nl ∧ i = .int .i64 (k : Int) ∧ BG w1 [] wr b 7 gm gw mu k tl) (fun i _ => nl - (intOf i).toNat)
  case atStart => exact ⟨0, _, Nat.zero_le _, rfl, H2.out⟩
  case round =>
    obtain ⟨k, tl, hk, rfl, h3⟩ := hrel
    have H3 := Lib.hid h3
    clear h3 H2
    by_cases hlt : k < nl
    · have i2 : (k : Int) < (nl : Int) := by omega
      have i0 : (0 : Int) ≤ (k : Int) := by omega
      have hkl : k < l.length := by rw [HN.out]; exact hlt
      go_wp2_with fail
      refine (used_g H3.out (by omega)).mono ?_
      rintro e w4 ⟨A2, m2, cap2, rfl, hm2, h4, _⟩
      obtain ⟨ab, ao, rfl, _, c0, c1⟩ := (HA1.out.below h4.way).act hkl
      obtain ⟨x1, hx1⟩ : ∃ x1, l[k].1 = x1 := ⟨_, rfl⟩
      obtain ⟨x2, hx2⟩ : ∃ x2, l[k].2 = x2 := ⟨_, rfl⟩
      rw [hx1] at c0
      rw [hx2] at c1
      have H4 := Lib.hid h4
      have HM2 := Lib.hid hm2
      have HX1 := Lib.hid hx1
      have HX2 := Lib.hid hx2
      have m0 : (0 : Int) ≤ (m2 : Int) := by omega
      clear h4 hm2 hx1 hx2 H3
      go_upto_if 30 with fail
      go_cut [6, 7] from 17 to 137 (fun _ _ wx => ∃ tl' : List Tl, BG w1 [] wx b 7 gm gw mu (k + 1) tl')
      case first =>
        by_cases q0 : x1 = 0
        · have t0 : (x1 == 0) = true := by simp [q0]
          clear q0
          go_wp2_with fail
          refine (take_g H4.out TW.out x2 (by omega)).mono ?_
          rintro e w5 ⟨at_, er, tl', rfl, htk, h5⟩
          have H5 := Lib.hid (h5.sub (S' := []) (fun s hs => absurd hs List.not_mem_nil))
          clear h5
          obtain ⟨c0, c1⟩ : w5.cell? ⟨ab, ao + k * 2, none⟩ = some (.int .i64 x1) ∧ w5.cell? ⟨ab, ao + k * 2 + 1, none⟩ = some (.int .i64 x2) := by
            obtain ⟨ab', ao', e, _, d0, d1⟩ := (HA1.out.below H5.out.way).act hkl
            cases e
            rw [HX1.out] at d0
            rw [HX2.out] at d1
            exact ⟨d0, d1⟩
          rcases htk with ⟨ho, rfl, rfl, rfl⟩ | ⟨q, ho, hq, ⟨hall, rfl, rfl, rfl⟩ | ⟨kk, a, c, rfl, hqk, hmin, hlow, rfl, rfl, rfl⟩⟩
          · clear ho
            go_wp2_with fail
            go_quiet (fail)
            go_wp2
            go_meet
            exact ⟨_, H5.out.below (below_drewN (Below.refl _ _) _)⟩
          · clear ho hq hall
            go_wp2_with fail
            go_quiet (fail)
            go_wp2
            go_meet
            exact ⟨_, H5.out.below (below_drewN (Below.refl _ _) _)⟩
          · have hg0 := H4.out.good
            have hor := order_taken q kk a c
            have hdv := taken_lies hg0 hqk
            have hspa : 1024 * span a < 1073741824 := by
              have := hg0.all
              rw [span_append] at this
              have h7 : (2 : Nat) ^ 7 = 128 := by decide
              rw [h7] at this
              omega
            have hpq : 2 ^ q ≤ 2 ^ 7 := Nat.pow_le_pow_right (by decide) hq
            have h7 : (2 : Nat) ^ 7 = 128 := by decide
            rw [h7] at hpq
            have hpos := two_pos q
            obtain ⟨X, hX⟩ : ∃ X : Int, ((1024 * span a : Nat) : Int) = X := ⟨_, rfl⟩
            obtain ⟨Z, hZ⟩ : ∃ Z : Int, Z = ((1024 * 2 ^ q : Nat) : Int) := ⟨_, rfl⟩
            have hz0 : ¬ (Z = 0) := by omega
            have hrm : X.tmod Z = 0 := by
              rw [← hX, hZ, Int.tmod_eq_emod_of_nonneg (by omega), ← Int.natCast_emod, Nat.mul_mod_mul_left, hdv]
              rfl
            rw [hX] at hor ⊢
            rw [← ho] at hor
            have hs : ∀ w, (Op.shift .shl .i64 1024 .u64 x2).run Tryd.prog w = .ok (.int .i64 Z) w := fun w => run_shlu 1024 q _ _ _ rfl ho hZ (by omega) (by omega) w
            have zo : IntKind.u64.wrap x2 = x2 := by rw [IntKind.wrap_u64]; omega
            have zn : (x2 != x2) = false := by simp
            have hwf : Hid ((Lit.int .i64 X).wf = true) := Lib.hid (WalkArith.wf_i64 (by omega))
            have HOR := Lib.hid hor
            clear ho hq hmin hlow hqk hg0 hdv hspa hX hZ hpq h7 hpos hor
            go_wp2_with fail
            go_quiet ((first | (go_at_call 12; exact Calls.quiet_of_same (order_l (H5.out.below (below_drewN (Below.refl _ _) _)) X hwf.out _ HOR.out))))
            go_wp2
            go_meet
            exact ⟨_, H5.out.below (below_drewN (Below.refl _ _) _)⟩
        · have t0 : (x1 == 0) = false := by simp [q0]
          have HE : Hid (BG w1 [] w4 b 7 gm gw mu (k + 1) tl) := Lib.hid ((H4.out.sub (S' := []) (fun s hs => absurd hs List.not_mem_nil)).mono (Nat.le_succ _))
          clear q0
          by_cases q1 : x2 < 0
          · have t1 : decide (0 ≤ x2) = false := decide_eq_false (by omega)
            clear q1
            go_wp2
            go_meet
            exact ⟨tl, HE.out⟩
          · have t1 : decide (0 ≤ x2) = true := decide_eq_true (by omega)
            by_cases q2 : 0 < m2
            · have t2 : (0 : Int) < (m2 : Int) := by omega
              have t3 : ¬ ((m2 : Int) = 0) := by omega
              obtain ⟨j, hj⟩ : ∃ j : Nat, j = (x2.tmod (m2 : Int)).toNat := ⟨_, rfl⟩
              have hjm := Int.emod_lt_of_pos x2 t2
              have hj0 := Int.emod_nonneg x2 t3
              have tj : x2.tmod (m2 : Int) = (j : Int) := by
                rw [Int.tmod_eq_emod_of_nonneg (by omega)] at hj ⊢
                omega
              have j0 : (0 : Int) ≤ (j : Int) := by omega
              have j1 : (j : Int) < (m2 : Int) := by
                rw [← tj, Int.tmod_eq_emod_of_nonneg (by omega)]
                exact hjm
              have hjl : j < (blks false 0 tl).length := by rw [← HM2.out]; omega
              obtain ⟨ub, uo, rfl, _, d0, d1⟩ := (H4.out.held List.mem_cons_self).sl.blk' hjl
              have hmem := List.getElem_mem hjl
              obtain ⟨X, hX⟩ : ∃ X : Int, ((1024 * ((blks false 0 tl)[j]).1 : Nat) : Int) = X := ⟨_, rfl⟩
              rw [hX] at d0
              have hwf : Hid ((Lit.int .i64 X).wf = true) := Lib.hid (WalkArith.wf_i64 (by
                have h1 := (blks_lt hmem).2
                have h2 := H4.out.good.all
                have h3 : (2 : Nat) ^ 7 = 128 := by decide
                rw [h3] at h2
                have := two_pos ((blks false 0 tl)[j]).2
                omega))
              clear hj hjm hj0 hjl hmem hX q1 q2 d1
              go_wp2_with fail
              refine (give_g H4.out X hwf.out).mono ?_
              rintro e w5 ⟨er, tl', rfl, _, h5⟩
              have H5 := Lib.hid ((h5.sub (S' := []) (fun s hs => absurd hs List.not_mem_nil)).mono (Nat.le_succ k))
              clear h5 c0 c1 d0
              go_wp2
              go_meet
              exact ⟨tl', H5.out⟩
            · have t2 : ¬ ((0 : Int) < (m2 : Int)) := by omega
              clear q1 q2
              go_wp2
              go_meet
              exact ⟨tl, HE.out⟩
      case rest =>
        obtain ⟨tl', h5⟩ := hcut
        have H5 := Lib.hid h5
        clear h5 c0 c1 H4 HM2 m0
        go_wp2_with fail
        refine (free_g H5.out TW.out).mono ?_
        rintro e w6 ⟨A6, m6, cap6, rfl, hm6, h6, _⟩
        have hm6l : m6 ≤ 1048576 := by rw [hm6]; exact h6.len true
        have H6 := Lib.hid h6
        have HM6 := Lib.hid hm6
        have HS6 := Lib.hid (h6.held List.mem_cons_self).sl
        clear h6 hm6 H5
        go_wp2_with fail
        go_loopw [9] (fun i wr => ∃ p : Nat, 1 ≤ p ∧ (p ≤ m6 ∨ p = 1) ∧ i = .int .i64 (p : Int) ∧ Below w6.heap.size w6 wr) (fun i _ => m6 - (intOf i).toNat)
        case atStart => exact ⟨1, Nat.le_refl _, .inr rfl, rfl, Below.refl _ _⟩
        case round =>
          obtain ⟨p, hp1, hp, rfl, hwr⟩ := hrel
          have Hwr := Lib.hid hwr
          by_cases hpm : p < m6
          · have p1 : (p : Int) < (m6 : Int) := by omega
            have p0 : (0 : Int) ≤ (p : Int) := by omega
            obtain ⟨p', hp'⟩ : ∃ p', p = p' + 1 := ⟨p - 1, by omega⟩
            have zp : IntKind.i64.wrap ((p : Int) - 1) = (p' : Int) := by rw [IntKind.wrap_i64]; omega
            have zq : IntKind.i64.wrap ((p : Int) + 1) = (p : Int) + 1 := by rw [IntKind.wrap_i64]; omega
            have p2 : (0 : Int) ≤ (p' : Int) := by omega
            have p3 : (p' : Int) < (m6 : Int) := by omega
            have hpl : p < (blks true 0 tl').length := by rw [← HM6.out]; exact hpm
            have hpl' : p' < (blks true 0 tl').length := by omega
            obtain ⟨ub, uo, rfl, _, d0, d1⟩ := (HS6.out.below hwr).blk' hpl
            obtain ⟨ub', uo', eA, _, d2, d3⟩ := (HS6.out.below hwr).blk' hpl'
            cases eA
            have hmem := List.getElem_mem hpl
            have hmem' := List.getElem_mem hpl'
            have hrise : ((blks true 0 tl')[p']).1 < ((blks true 0 tl')[p]).1 := by
              have hr := blks_rise true 0 tl'
              unfold Rises at hr
              rw [List.pairwise_iff_getElem] at hr
              exact hr p' p hpl' hpl (by omega)
            obtain ⟨x, hx⟩ : ∃ x, (blks true 0 tl')[p] = x := ⟨_, rfl⟩
            obtain ⟨y, hy⟩ : ∃ y, (blks true 0 tl')[p'] = y := ⟨_, rfl⟩
            rw [hx] at d0 d1 hmem hrise
            rw [hy] at d2 d3 hmem' hrise
            obtain ⟨x, ox⟩ := x
            obtain ⟨y, oy⟩ := y
            have hgd := H6.out.good
            have hb1 := (blks_lt hmem).2
            have hb2 := (blks_lt hmem').2
            have h2 := hgd.all
            have h3 : (2 : Nat) ^ 7 = 128 := by decide
            rw [h3] at h2
            have tpx := two_pos ox
            have tpy := two_pos oy
            simp only at d0 d1 d2 d3 hmem hmem' hrise hb1 hb2
            have hox : ox ≤ 7 := by
              obtain ⟨a, c, e, _⟩ := blks_mem hmem
              exact hgd.le (ox, true) (by rw [e]; simp)
            obtain ⟨X, hX⟩ : ∃ X : Int, ((1024 * x : Nat) : Int) = X := ⟨_, rfl⟩
            obtain ⟨Y, hY⟩ : ∃ Y : Int, ((1024 * y : Nat) : Int) = Y := ⟨_, rfl⟩
            obtain ⟨O, hO⟩ : ∃ O : Int, (ox : Int) = O := ⟨_, rfl⟩
            obtain ⟨P, hP⟩ : ∃ P : Int, (oy : Int) = P := ⟨_, rfl⟩
            rw [hX] at d0
            rw [hO] at d1
            rw [hY] at d2
            rw [hP] at d3
            obtain ⟨Z, hZ⟩ : ∃ Z : Int, Z = ((1024 * 2 ^ ox : Nat) : Int) := ⟨_, rfl⟩
            have hs : ∀ w, (Op.shift .shl .i64 1024 .u64 O).run Tryd.prog w = .ok (.int .i64 Z) w := fun w => run_shlu 1024 ox _ _ _ rfl hO.symm hZ (by omega) (by omega) w
            have zO : IntKind.u64.wrap O = O := by rw [IntKind.wrap_u64]; omega
            by_cases ho : oy = ox
            · subst ho
              obtain rfl : O = P := by rw [← hO, ← hP]
              have hne := apart_law hgd hmem' hmem hrise
              have g1 := div_1024 x oy X Z hX.symm hZ
              have g2 := div_1024 y oy Y Z hY.symm hZ
              have g3 := div_two (x / 2 ^ oy)
              have g4 := div_two (y / 2 ^ oy)
              have le1 := Nat.div_le_self x (2 ^ oy)
              have le2 := Nat.div_le_self y (2 ^ oy)
              obtain ⟨u1, hu1⟩ : ∃ u1, x / 2 ^ oy = u1 := ⟨_, rfl⟩
              obtain ⟨u2, hu2⟩ : ∃ u2, y / 2 ^ oy = u2 := ⟨_, rfl⟩
              rw [hu1] at hne g1 g3 le1
              rw [hu2] at hne g2 g4 le2
              obtain ⟨Q1, hQ1⟩ : ∃ Q1 : Int, (u1 : Int) = Q1 := ⟨_, rfl⟩
              obtain ⟨Q2, hQ2⟩ : ∃ Q2 : Int, (u2 : Int) = Q2 := ⟨_, rfl⟩
              obtain ⟨R1, hR1⟩ : ∃ R1 : Int, ((u1 / 2 : Nat) : Int) = R1 := ⟨_, rfl⟩
              obtain ⟨R2, hR2⟩ : ∃ R2 : Int, ((u2 / 2 : Nat) : Int) = R2 := ⟨_, rfl⟩
              rw [hQ1] at g1 g3
              rw [hQ2] at g2 g4
              rw [hR1] at g3
              rw [hR2] at g4
              have j1 : wrap64 (X.tdiv Z) = Q1 := by rw [g1, wrap64]; omega
              have j2 : wrap64 (Y.tdiv Z) = Q2 := by rw [g2, wrap64]; omega
              have j3 : wrap64 (Q1.tdiv 2) = R1 := by rw [g3, wrap64]; omega
              have j4 : wrap64 (Q2.tdiv 2) = R2 := by rw [g4, wrap64]; omega
              have j5 : (R2 == R1) = false := by simp only [beq_eq_false_iff_ne, ne_eq]; omega
              have j6 : ¬ (Z = 0) := by omega
              have j7 : (O == O) = true := by simp
              clear hwr hp hp' hpl hpl' hmem hmem' hrise hx hy hgd hb1 hb2 h2 h3 tpx tpy hox hX hY hO hP hZ hne g1 g2 g3 g4 le1 le2 hu1 hu2 hQ1 hQ2 hR1 hR2 hpm
              go_wp2_with fail
              go_quiet (fail)
              go_wp2
              go_roundw
              case rel => exact ⟨p + 1, by omega, .inl (by omega), by go_num, below_drewN Hwr.out nq⟩
              case measure => (try simp [intOf]) <;> omega
            · have j7 : (P == O) = false := by simp only [beq_eq_false_iff_ne, ne_eq]; omega
              have j6 : ¬ (Z = 0) := by omega
              clear hwr hp hp' hpl hpl' hmem hmem' hrise hx hy hgd hb1 hb2 h2 h3 tpx tpy hox hX hY hO hP hZ hpm ho
              go_wp2_with fail
              go_quiet (fail)
              go_wp2
              go_roundw
              case rel => exact ⟨p + 1, by omega, .inl (by omega), by go_num, below_drewN Hwr.out nq⟩
              case measure => (try simp [intOf]) <;> omega
          · have p1 : ¬ ((p : Int) < (m6 : Int)) := by omega
            have H8 := Lib.hid ((H6.out.below hwr).sub (S' := []) (fun s hs => absurd hs List.not_mem_nil))
            clear hwr hp hp1 hpm H6 HS6
            go_wp2
            exact ⟨⟨k + 1, tl', by omega, by go_num, H8.out⟩, by simp [intOf]; omega⟩
    · have i2 : ¬ ((k : Int) < (nl : Int)) := by omega
      clear hk hlt
      go_wp2_with fail
      refine (alive_any _ (TW.out.below TW.out.lt H3.out.way)).mono ?_
      rintro e w7 ⟨rfl, h7⟩
      have HW := Lib.hid (HB.out.trans ((H3.out.below h7).way.mono HB.out.size))
      clear h7
      go_wp2
      go_ret
      exact ⟨rfl, HW.out⟩
theorem apart_any (l : List (Int × Int)) (A : Option Addr) (cap : Nat) (w : World) (hT : TabZ w) (hA : SlR w A (actCells l)) : Calls Tryd.prog 5 #[.slice A l.length cap] w fun e w' => e = .returned (.bool true) ∧ Below w.heap.size w w' := by
  by_cases h : 100 < l.length
  · exact apart_long A _ cap h w hT
  · exact apart_short l A _ cap rfl (by omega) w hT hA
end Go.Proofs.YtjbkkloobggjkaaDoor
