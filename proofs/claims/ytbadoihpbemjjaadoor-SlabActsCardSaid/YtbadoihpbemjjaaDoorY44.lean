/- The walk of SlabActs. Condition: the acts are read. -/
import Derived.Test.YtbadoihpbemjjaaDoorY43
import Derived.Test.YtbadoihpbemjjaaDoorY28
import Derived.Deep.CutRange
import Derived.Deep.CutBlock
/- The walk of SlabActs. Condition: the acts are read. -/
namespace Go.Proofs.YtbadoihpbemjjaaDoor
open Go.RowKit Go.Maps

set_option maxRecDepth 100000 in
set_option maxHeartbeats 12800000 in
theorem sacts_go (size : Nat) (S : Int) (hSS : S = (size : Int)) (hs : 16 ≤ size) (hs2 : size ≤ 512) (hs3 : (size : Int).tmod 16 = 0) (L : List (Int × Int)) (A : Option Addr) (nl cap : Nat) (hn : L.length = nl) (h : nl ≤ 200) (w : World) (hT : TabZ w) (hA : SlR w A (actCells L)) (hwf : ∀ x ∈ L, (Lit.int .i64 x.2).wf = true) : Calls Tryd.prog 4 #[.int .i64 S, .slice A nl cap] w fun e w' => e = .returned (.bool true) ∧ Below w.heap.size w w' := by
  have i1 : ¬ (200 : Int) < (nl : Int) := by omega
  obtain ⟨M, hM⟩ : ∃ M, M = 960 / size := ⟨_, rfl⟩
  obtain ⟨MM, hMM⟩ : ∃ MM : Int, (M : Int) = MM := ⟨_, rfl⟩
  have HT := Lib.hid hT
  have HA := Lib.hid hA
  have HN := Lib.hid hn
  have HWF := Lib.hid hwf
  have HSZ : Hid (16 ≤ size ∧ size ≤ 512 ∧ M = 960 / size) := Lib.hid ⟨hs, hs2, hM⟩
  have HS3 := Lib.hid hs3
  have HSS := Lib.hid hSS
  have HMM := Lib.hid hMM
  have HNL := Lib.hid h
  clear hT hA hn hwf hs hs2 hs3 hSS hM hMM h
  go_enter Tryd.func4, Tryd.ntmps4
  go_wp2_with fail
  refine (alive_any _ HT.out).mono ?_
  rintro e w1 ⟨rfl, hb⟩
  have HB := Lib.hid hb
  have TW : Hid (TabZ w1) := Lib.hid (HT.out.below HT.out.lt hb)
  have HA1 : Hid (SlR w1 A (actCells L)) := Lib.hid (HA.out.below hb)
  clear hb
  go_wp2_with fail
  refine (new_g 65536 6 65536 rfl (by decide) (by omega) (by omega) _ TW.out).mono ?_
  rintro e w2 ⟨b, gm, gw, mu, rfl, h2⟩
  have H2 := Lib.hid h2.rebase
  have HW2 := Lib.hid h2.way
  clear h2
  go_wp2_with fail
  refine (new_s 6 gm gw mu H2.out HSZ.out.1 HSZ.out.2.1 HS3.out M S HSS.out).mono ?_
  rintro e w3 ⟨c, rfl, h3⟩
  have H3 := Lib.hid h3
  clear h3 H2
  go_wp2_with fail
  refine (rmay_yes size HSZ.out.1 HSZ.out.2.1 HS3.out S HSS.out _).mono ?_
  rintro e w4 ⟨rfl, hw4⟩
  have hw4' := hw4.symm
  clear hw4
  subst hw4'
  go_wp2_with fail
  refine (rnew_any 65536 6 65536 rfl (by decide) (by omega) _).mono ?_
  rintro e w4 ⟨q, A1, c1, A2, c2, rfl, hq, hrb, hb4⟩
  have h4 := H3.out.below hb4
  have HQ4 := Lib.hid (Nat.le_trans H3.out.way.size hq)
  have H4 := Lib.hid h4
  have HRB := Lib.hid hrb
  clear hq hrb hb4 h4 H3
  go_wp2_with fail
  have b5 : Below w4.heap.size w4 (w4.alloc (.cells #[.pointer (some ⟨q, 0, none⟩), .int .i64 S, .slice none 0 0, .slice none 0 0] 43)) := (Below.refl _ w4).alloc (Nat.le_refl _) _
  have x5 := heap_alloc_new w4 (.cells #[.pointer (some ⟨q, 0, none⟩), .int .i64 S, .slice none 0 0, .slice none 0 0] 43)
  have hr5 := H4.out.way.size
  obtain ⟨r, hr⟩ : ∃ r, w4.heap.size = r := ⟨_, rfl⟩
  rw [hr] at x5 hr5
  rw [hr]
  generalize hw5 : w4.alloc (.cells #[.pointer (some ⟨q, 0, none⟩), .int .i64 S, .slice none 0 0, .slice none 0 0] 43) = w5 at b5 x5 ⊢
  have h5 : SA w1 w5 b c q r size M 6 0 [(6, true)] [] A1 c1 A2 c2 [(6, true)] none 0 (slabsC []) none 0 (usedC M size []) := by
    have e1 : blks true 0 [(6, true)] = [(0, 6)] := by simp [blks]
    have e2 : blks false 0 [(6, true)] = [] := by simp [blks]
    have hb := HRB.out.below b5
    refine ⟨H4.out.below b5, ⟨?_, ?_, HeldT.nil _ _, HeldT.nil _ _, Nat.le_refl _, Nat.le_refl _⟩, lay_nil _ _ _, HQ4.out, hr5⟩
    · rw [e1, e2]; exact hb
    · rw [← HSS.out]; exact x5
  have H5 := Lib.hid h5
  clear b5 x5 hr5 hr hw5 h5 H4 HRB
  go_loopw [11] (fun i wr => ∃ (k : Nat) (l : List Tl) (P : List Pg) (A1 : Option Addr) (c1 : Nat) (A2 : Option Addr) (c2 : Nat) (S1 : Option Addr) (d1 : Nat) (S2 : Option Addr) (d2 : Nat), k ≤ nl ∧ i = .int .i64 (k : Int) ∧ SA w1 wr b c q r size M 6 k l P A1 c1 A2 c2 l S1 d1 (slabsC P) S2 d2 (usedC M size P)) (fun i _ => nl - (intOf i).toNat)
  case atStart => exact ⟨0, _, _, _, _, _, _, _, _, _, _, Nat.zero_le _, rfl, H5.out⟩
  case round =>
    obtain ⟨k, l, P, A1, c1, A2, c2, S1, d1, S2, d2, hk, rfl, h4⟩ := hrel
    have H4 := Lib.hid h4
    clear H5
    by_cases hlt : k < nl
    · have i2 : (k : Int) < (nl : Int) := by omega
      have i0 : (0 : Int) ≤ (k : Int) := by omega
      have hkl : k < L.length := by rw [HN.out]; exact hlt
      obtain ⟨ab, ao, rfl, _, a0, a1⟩ := (HA1.out.below h4.way).act hkl
      have hw2 := HWF.out L[k] (List.getElem_mem hkl)
      obtain ⟨x1, hx1⟩ : ∃ x1, L[k].1 = x1 := ⟨_, rfl⟩
      obtain ⟨x2, hx2⟩ : ∃ x2, L[k].2 = x2 := ⟨_, rfl⟩
      rw [hx1] at a0
      rw [hx2] at a1 hw2
      have HW2 := Lib.hid hw2
      have k1000 : Hid (k + 1 < 1000) := Lib.hid (by have := HNL.out; omega)
      have kle : Hid (k + 1 ≤ nl) := Lib.hid hlt
      have k3 := h4.rc.r3
      clear h4 hx1 hx2 hw2 hkl hk hlt
      go_upto_block 2 with fail
      go_cut [13, 14, 15, 16, 17, 18] from 90 to 163 (fun s _ _ _ _ _ wx => s = .bool true ∧ ∃ (l : List Tl) (P : List Pg) (A1 : Option Addr) (c1 : Nat) (A2 : Option Addr) (c2 : Nat) (S1 : Option Addr) (d1 : Nat) (S2 : Option Addr) (d2 : Nat), SA w1 wx b c q r size M 6 (k + 1) l P A1 c1 A2 c2 l S1 d1 (slabsC P) S2 d2 (usedC M size P))
      case first =>
        by_cases q0 : x1 = 0
        · have t0 : (x1 == 0) = true := by simp [q0]
          clear q0 k3
          go_wp2_with fail
          refine (sap_take H4.out TW.out (by have := k1000.out; omega) HSZ.out.1 HSZ.out.2.1 HSZ.out.2.2).mono ?_
          rintro e w5 ⟨x, er, l', P', rfl, hts, h5⟩
          have HTS := Lib.hid hts
          have H5 := Lib.hid h5
          clear hts h5
          go_wp2_with fail
          refine (sar_take H4.out HTS.out H5.out (by omega) HSZ.out.1 HSZ.out.2.1 HSZ.out.2.2).mono ?_
          rintro e w6 ⟨rfl, B1, e1, B2, e2, T1, f1, T2, f2, h6⟩
          have H6 := Lib.hid h6
          clear h6 a0 a1
          go_wp2
          go_meet
          exact ⟨rfl, l', P', B1, e1, B2, e2, T1, f1, T2, f2, H6.out⟩
        · have t0 : (x1 == 0) = false := by simp [q0]
          by_cases q1 : x1 = 1
          · have s1 : (x1 == 1) = true := by simp [q1]
            clear q0 q1 k3
            go_wp2_with fail
            refine (sap_give H4.out HSZ.out.1 HSZ.out.2.1 HSZ.out.2.2 x2 HW2.out).mono ?_
            rintro e w5 ⟨er, l', P', rfl, hts, h5⟩
            have HTS := Lib.hid hts
            have H5 := Lib.hid h5
            clear hts h5
            go_wp2_with fail
            refine (sar_give H4.out HTS.out H5.out (by omega) HSZ.out.1 HSZ.out.2.1 HSZ.out.2.2).mono ?_
            rintro e w6 ⟨rfl, B1, e1, B2, e2, T1, f1, T2, f2, h6⟩
            have H6 := Lib.hid (h6.mono (Nat.le_succ k))
            clear h6 a0 a1
            go_wp2
            go_meet
            exact ⟨rfl, l', P', B1, e1, B2, e2, T1, f1, T2, f2, H6.out⟩
          · have s1 : (x1 == 1) = false := by simp [q1]
            have HE := Lib.hid (H4.out.mono (Nat.le_succ k))
            by_cases q2 : x1 = 2
            · have s2 : (x1 == 2) = true := by simp [q2]
              by_cases q3 : x2 < 0
              · have s3 : decide (0 ≤ x2) = false := decide_eq_false (by omega)
                clear q0 q1 q2 q3
                go_wp2
                go_meet
                exact ⟨rfl, l, P, A1, c1, A2, c2, S1, d1, S2, d2, HE.out⟩
              · have s3 : decide (0 ≤ x2) = true := decide_eq_true (by omega)
                obtain ⟨m2, hm2⟩ : ∃ m2, (usedC M size P).length = m2 := ⟨_, rfl⟩
                rw [hm2] at k3
                by_cases q4 : 0 < m2
                · have s4 : (0 : Int) < (m2 : Int) := by omega
                  have s5 : ¬ ((m2 : Int) = 0) := by omega
                  obtain ⟨j, hj⟩ : ∃ j : Nat, j = (x2.tmod (m2 : Int)).toNat := ⟨_, rfl⟩
                  have hjm := Int.emod_lt_of_pos x2 s4
                  have hj0 := Int.emod_nonneg x2 s5
                  have tj : x2.tmod (m2 : Int) = (j : Int) := by
                    rw [Int.tmod_eq_emod_of_nonneg (by omega)] at hj ⊢
                    omega
                  have j0 : (0 : Int) ≤ (j : Int) := by omega
                  have j1 : (j : Int) < (m2 : Int) := by
                    rw [← tj, Int.tmod_eq_emod_of_nonneg (by omega)]
                    exact hjm
                  have hjl : j < (usedC M size P).length := by rw [hm2]; omega
                  obtain ⟨ub, uo, rfl, u0⟩ := H4.out.rc.ul.sl.int hjl
                  obtain ⟨X, hX⟩ : ∃ X : Int, (usedC M size P)[j] = X := ⟨_, rfl⟩
                  rw [hX] at u0
                  have HXW : Hid ((Lit.int .i64 X).wf = true) := Lib.hid (WalkArith.wf_i64 (by
                    have := used_wide (X := X) H4.out.lay H4.out.sg.good (by omega) HSZ.out.2.2 (by rw [← hX]; exact List.getElem_mem hjl)
                    omega))
                  clear q0 q1 q2 q3 q4 hm2 hj hjm hj0 hjl hX
                  go_wp2_with fail
                  go_quiet (fail)
                  have HD := Lib.hid (H4.out.below (below_drewN (Below.refl _ _) nq))
                  clear k3 u0 a0 a1
                  go_wp2_with fail
                  refine (sap_give HD.out HSZ.out.1 HSZ.out.2.1 HSZ.out.2.2 X HXW.out).mono ?_
                  rintro e w5 ⟨er, l', P', rfl, hts, h5⟩
                  have HTS := Lib.hid hts
                  have H5 := Lib.hid h5
                  clear hts h5
                  go_wp2_with fail
                  refine (sar_give H4.out HTS.out H5.out (by omega) HSZ.out.1 HSZ.out.2.1 HSZ.out.2.2).mono ?_
                  rintro e w6 ⟨rfl, B1, e1, B2, e2, T1, f1, T2, f2, h6⟩
                  have H6 := Lib.hid (h6.mono (Nat.le_succ k))
                  clear h6
                  go_wp2
                  go_meet
                  exact ⟨rfl, l', P', B1, e1, B2, e2, T1, f1, T2, f2, H6.out⟩
                · have s4 : ¬ ((0 : Int) < (m2 : Int)) := by omega
                  clear q0 q1 q2 q3 q4 hm2
                  go_wp2
                  go_meet
                  exact ⟨rfl, l, P, A1, c1, A2, c2, S1, d1, S2, d2, HE.out⟩
            · have s2 : (x1 == 2) = false := by simp [q2]
              by_cases q3 : x1 = 3
              · have s3 : (x1 == 3) = true := by simp [q3]
                clear q0 q1 q2 q3 k3
                go_wp2_with fail
                refine (sap_blk H4.out TW.out (by have := k1000.out; omega) x2).mono ?_
                rintro e w5 ⟨at_, er, l', rfl, hts, h5⟩
                have HTS := Lib.hid hts
                have H5 := Lib.hid h5
                clear hts h5
                go_wp2_with fail
                refine (sar_blk H5.out H4.out.sg.good (by omega) x2 at_ er HTS.out).mono ?_
                rintro e w6 ⟨rfl, B1, e1, B2, e2, h6⟩
                have H6 := Lib.hid h6
                clear h6 a0 a1
                go_wp2
                go_meet
                exact ⟨rfl, l', P, B1, e1, B2, e2, S1, d1, S2, d2, H6.out⟩
              · have s3 : (x1 == 3) = false := by simp [q3]
                clear q0 q1 q2 q3
                go_wp2
                go_meet
                exact ⟨rfl, l, P, A1, c1, A2, c2, S1, d1, S2, d2, HE.out⟩
      case rest =>
        obtain ⟨rfl, l, P, A1, c1, A2, c2, S1, d1, S2, d2, h5⟩ := hcut
        obtain ⟨HB1, hHB⟩ : ∃ B : Bool, B = decide (x2 ∈ usedC M size P) := ⟨_, rfl⟩
        obtain ⟨um, hum⟩ : ∃ um, (usedC M size P).length = um := ⟨_, rfl⟩
        obtain ⟨sm, hsm⟩ : ∃ sm, (slabsC P).length = sm := ⟨_, rfl⟩
        obtain ⟨fm, hfm⟩ : ∃ fm, (blks true 0 l).length = fm := ⟨_, rfl⟩
        have HHB : Hid (HB1 = true ↔ x2 ∈ usedC M size P) := Lib.hid (by rw [hHB, decide_eq_true_iff])
        have HUM := Lib.hid hum
        have HSM := Lib.hid hsm
        have HFM := Lib.hid hfm
        have nB : (HB1 != HB1) = false := by simp
        have KS : Hid (∀ w', SA w1 w' b c q r size M 6 (k + 1) l P A1 c1 A2 c2 l S1 d1 (slabsC P) S2 d2 (usedC M size P) → w'.cell? ⟨r, 3, none⟩ = some (.slice S2 um d2) ∧ w'.cell? ⟨r, 2, none⟩ = some (.slice S1 sm d1) ∧ w'.cell? ⟨q, 1, none⟩ = some (.slice A1 fm c1)) := Lib.hid (fun w' h => ⟨by rw [← HUM.out]; exact h.rc.r3, by rw [← HSM.out]; exact h.rc.r2, by rw [← HFM.out]; exact h.rc.rb.r1⟩)
        have HX5 := Lib.hid h5
        clear h5 a0 a1 k3 H4 hHB hum hsm hfm
        go_wp2_with fail
        have hd := HX5.out.below (Below.refl _ _).drew
        go_region_held3 (fun w' => w'.cell? ⟨r, 3, none⟩ = some (.slice S2 um d2) ∧ w'.cell? ⟨r, 2, none⟩ = some (.slice S1 sm d1) ∧ w'.cell? ⟨q, 1, none⟩ = some (.slice A1 fm c1)) (first | (exact KS.out _ (by assumption))) (first | (go_at_call 19; (with_reducible refine (sa_has (by assumption) HSZ.out.1 HSZ.out.2.1 HSZ.out.2.2 x2 HW2.out HB1 HHB.out).mono ?_); rintro e w7 ⟨rfl, h7⟩) | (go_at_call 25; (with_reducible refine (sa_rhas (by assumption) (by omega) HSZ.out.1 HSZ.out.2.1 HSZ.out.2.2 x2 HB1 HHB.out).mono ?_); rintro e w8 ⟨rfl, rfl⟩) | (go_at_call 11; (with_reducible refine (sa_used (by assumption) TW.out HSZ.out.1 HSZ.out.2.1 HSZ.out.2.2 um HUM.out).mono ?_); rintro e w9 ⟨A9, k9, rfl, hh9, h9⟩) | (go_at_call 14; (with_reducible refine (sa_slabs (by assumption) sm HSM.out).mono ?_); rintro e w11 ⟨A11, k11, rfl, hh11, h11⟩) | (go_at_call 13; (with_reducible refine (sa_free (by assumption) TW.out fm HFM.out).mono ?_); rintro e w13 ⟨A13, k13, rfl, hh13, h13⟩) | (go_at_call 26; (with_reducible refine (sa_sameU (by assumption) (by omega) HSZ.out.1 HSZ.out.2.1 HSZ.out.2.2 um HUM.out _ _ (by assumption)).mono ?_); rintro e w10 ⟨rfl, h10⟩) | (go_at_call 26; (with_reducible refine (sa_sameS (by assumption) (by omega) sm HSM.out _ _ (by assumption)).mono ?_); rintro e w12 ⟨rfl, h12⟩) | (go_at_call 27; (with_reducible refine (sa_sameF (by assumption) (by omega) fm HFM.out _ _ (by assumption)).mono ?_); rintro e w14 ⟨rfl, h14⟩))
        have H14 := Lib.hid h14
        clear h7 hh9 h9 h10 hh11 h11 h12 hh13 h13 h14 hd
        go_wp2
        go_roundw
        case rel => exact ⟨k + 1, l, P, A1, c1, A2, c2, S1, d1, S2, d2, kle.out, by go_num, H14.out⟩
        case measure => have := kle.out; (try simp [intOf]) <;> omega
    · have i2 : ¬ ((k : Int) < (nl : Int)) := by omega
      have HW := Lib.hid (HB.out.trans (h4.way.mono HB.out.size))
      clear hk hlt h4
      go_wp2_with fail
      refine (many_s H4.out.sg HSZ.out.1 HSZ.out.2.2 MM HMM.out.symm).mono ?_
      rintro e w5 ⟨rfl, hw⟩
      have hw2 := hw.symm
      clear hw
      subst hw2
      go_wp2_with fail
      refine (rmany_any size M _ HSZ.out.1 HSZ.out.2.2 S MM HSS.out.symm HMM.out).mono ?_
      rintro e w5 ⟨rfl, hw⟩
      have hw2 := hw.symm
      clear hw
      subst hw2
      go_wp2_with fail
      refine (size_s H4.out.sg S HSS.out).mono ?_
      rintro e w5 ⟨rfl, hw⟩
      have hw2 := hw.symm
      clear hw
      subst hw2
      go_wp2
      go_ret
      exact ⟨rfl, HW.out⟩
theorem sacts_any (S : Int) (hw : (Lit.int .i64 S).wf = true) (L : List (Int × Int)) (A : Option Addr) (cap : Nat) (w : World) (hT : TabZ w) (hA : SlR w A (actCells L)) (hwf : ∀ x ∈ L, (Lit.int .i64 x.2).wf = true) : Calls Tryd.prog 4 #[.int .i64 S, .slice A L.length cap] w fun e w' => e = .returned (.bool true) ∧ Below w.heap.size w w' := by
  by_cases h : 200 < L.length
  · exact sacts_long S A _ cap h w hT
  by_cases h1 : S < 16 ∨ 512 < S ∨ S.tmod 16 ≠ 0
  · exact sacts_nil S A _ cap (by omega) h1 hw w hT
  · obtain ⟨size, hS⟩ : ∃ size : Nat, S = (size : Int) := ⟨S.toNat, by omega⟩
    have h2 : ¬ (S.tmod 16 ≠ 0) := fun e => h1 (.inr (.inr e))
    rw [hS] at h2
    exact sacts_go size S hS (by omega) (by omega) (Decidable.not_not.1 h2) L A _ cap rfl (by omega) w hT hA hwf
end Go.Proofs.YtbadoihpbemjjaaDoor
