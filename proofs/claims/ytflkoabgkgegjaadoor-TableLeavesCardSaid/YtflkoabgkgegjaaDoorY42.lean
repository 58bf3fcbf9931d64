/- The walk of TableFails. Condition: the slots are read, and the tables hold what their texts say. -/
import Derived.Test.YtflkoabgkgegjaaDoorY41
/- The walk of TableFails. Condition: the slots are read, and the tables hold what their texts say. -/
namespace Go.Proofs.YtflkoabgkgegjaaDoor
open Go.RowKit Go.Maps

theorem need_one (lf : Nat → Nat) (s : Nat) (hs : s < 256) : needN lf [(s : Int)] = if lf (s / 16) = 0 then 1 else 0 := by
  have e : ∀ j, needB lf [(s : Int)] j = decide (lf j = 0 ∧ s / 16 = j) := fun j => by
    unfold needB
    rw [decide_eq_decide]
    constructor
    · rintro ⟨h1, t, h2, _, _, h3⟩
      rw [List.mem_singleton.1 h2, Int.toNat_natCast] at h3
      exact ⟨h1, h3⟩
    · rintro ⟨h1, h2⟩
      exact ⟨h1, (s : Int), List.mem_singleton.2 rfl, by omega, by omega, by rw [Int.toNat_natCast]; exact h2⟩
  unfold needN
  split
  · rename_i q
    rw [countP_turn (fun _ => false) (needB lf [(s : Int)]) (s / 16) (fun i hi => by rw [e, decide_eq_false (fun h => hi h.2.symm)]) rfl (by rw [e]; exact decide_eq_true ⟨q, rfl⟩) 16, if_pos (by omega)]
    simp
  · rename_i q
    rw [List.countP_eq_zero]
    intro j _
    rw [e, decide_eq_false (fun h => q (by rw [h.2]; exact h.1))]
    decide
set_option maxRecDepth 100000 in
theorem fails_long (m0 : Nat) (A : Option Addr) (nl cap : Nat) (h : 60 < nl) (w : World) (hZ : TabZ w) (hC : TabC w) : Calls Tryd.prog 4 #[.int .u8 (m0 : Int), .slice A nl cap] w fun e w' => e = .returned (.bool true) ∧ Below w.heap.size w w' := by
  have i1 : (60 : Int) < (nl : Int) := by omega
  have HZ := Lib.hid hZ
  have HC := Lib.hid hC
  clear hZ hC h
  go_enter Tryd.func4, Tryd.ntmps4
  go_wp2_with fail
  refine (alive_any _ HZ.out HC.out).mono ?_
  rintro e w1 ⟨rfl, hb⟩
  have HB := Lib.hid hb
  clear hb
  go_wp2
  go_ret
  exact ⟨rfl, HB.out⟩
set_option maxRecDepth 100000 in
set_option maxHeartbeats 12800000 in
theorem fails_short (m0 : Nat) (hm0 : m0 ≤ 255) (l : List Nat) (A : Option Addr) (nl cap : Nat) (hn : l.length = nl) (h : nl ≤ 60) (hwf : ∀ x ∈ l, x < 256) (w : World) (hZ : TabZ w) (hC : TabC w) (hA : SlR w A (Ar.u8s l)) : Calls Tryd.prog 4 #[.int .u8 (m0 : Int), .slice A nl cap] w fun e w' => e = .returned (.bool true) ∧ Below w.heap.size w w' := by
  have i1 : ¬ (60 : Int) < (nl : Int) := by omega
  obtain ⟨mo, hmo⟩ : ∃ mo : Nat, m0 % 17 = mo := ⟨_, rfl⟩
  obtain ⟨L, hL⟩ : ∃ L : Nat, 128 + 256 * mo = L := ⟨_, rfl⟩
  obtain ⟨M0, hM0⟩ : ∃ M : Int, (m0 : Int) = M := ⟨_, rfl⟩
  obtain ⟨MO, hMO⟩ : ∃ M : Int, (mo : Int) = M := ⟨_, rfl⟩
  obtain ⟨Q, hQ⟩ : ∃ Q : Int, 256 * MO = Q := ⟨_, rfl⟩
  obtain ⟨LL, hLL⟩ : ∃ LL : Int, (L : Int) = LL := ⟨_, rfl⟩
  have zc : IntKind.i64.wrap M0 = M0 := by rw [IntKind.wrap_i64]; omega
  have zm : M0.tmod 17 = MO := by rw [← hM0, Int.tmod_eq_emod_of_nonneg (by omega)]; omega
  have zq : IntKind.i64.wrap (256 * MO) = Q := by rw [IntKind.wrap_i64]; omega
  have zl : IntKind.i64.wrap (128 + Q) = LL := by rw [IntKind.wrap_i64]; omega
  have HZ := Lib.hid hZ
  have HC := Lib.hid hC
  have HA := Lib.hid hA
  have HN : Hid (l.length = nl ∧ nl ≤ 60) := Lib.hid ⟨hn, h⟩
  have HWF := Lib.hid hwf
  have HL : Hid (128 + 256 * mo = L ∧ mo ≤ 16 ∧ (L : Int) = LL ∧ (mo : Int) = MO) := Lib.hid ⟨hL, by omega, hLL, hMO⟩
  rw [hM0]
  clear hZ hC hA hn h hwf hm0 hmo hL hM0 hMO hQ hLL
  go_enter Tryd.func4, Tryd.ntmps4
  go_wp2_with fail
  refine (alive_any _ HZ.out HC.out).mono ?_
  rintro e w1 ⟨rfl, hb⟩
  have HB := Lib.hid hb
  have HZ1 := Lib.hid (HZ.out.below HZ.out.lt hb)
  have HC1 := Lib.hid (HC.out.below HC.out.lt hb)
  have HA1 : Hid (SlR w1 A (Ar.u8s l)) := Lib.hid (HA.out.below hb)
  clear hb
  go_wp2_with fail
  refine (pnew L (by have := HL.out; omega) LL HL.out.2.2.1 _ HZ1.out HC1.out).mono ?_
  rintro e w2 ⟨pb, tb, qm, fb, ga, gb, b, c, rfl, h2⟩
  have H2 := Lib.hid h2
  clear h2 zc zm zq zl
  go_wp2_with fail
  refine (pget_first H2.out HZ1.out HC1.out (by have := HL.out; omega)).mono ?_
  rintro e w3 ⟨X, a, l3, P3, hX, ha, rfl, h3, k3, hx3, al3⟩
  have H3 := Lib.hid h3
  have AL3 := Lib.hid al3
  have HXA : Hid (X = (a : Int)) := Lib.hid hX
  have HX3 := Lib.hid hx3
  clear h3 k3 al3 hX ha hx3
  go_wp2_with fail
  refine (tat_first a X HXA.out H3.out HC1.out HX3.out).mono ?_
  rintro e w4 ⟨xb, rfl, h4, k4⟩
  have H4 := Lib.hid h4
  clear h4 k4
  go_wp2_with fail
  have b5 : Below w4.heap.size w4 (w4.alloc (.cells Tryd.zeroCells32 32)) := (Below.refl _ w4).alloc (Nat.le_refl _) _
  have a5 := zc_ar w4
  have h5 := H4.out.below b5
  have hlo : w1.heap.size ≤ w4.heap.size := H4.out.way.size
  obtain ⟨ab, hab⟩ : ∃ ab, w4.heap.size = ab := ⟨_, rfl⟩
  rw [hab] at a5 hlo
  rw [hab]
  generalize w4.alloc (.cells Tryd.zeroCells32 32) = w5 at b5 a5 h5 ⊢
  have H5 := Lib.hid h5
  have HA5 := Lib.hid a5
  have HLO : Hid (w1.heap.size ≤ ab) := Lib.hid hlo
  clear b5 a5 h5 hlo hab H4
  go_loopw [11, 12, 13, 14, 15, 16, 17, 18] (fun v11 _ _ _ _ _ _ _ wr => ∃ (k : Nat) (lt : List Tl) (P : Nat → List Pg) (f : Nat → Nat) (C : Nat) (lf A B : Nat → Nat), k ≤ nl ∧ v11 = .int .i64 (k : Int) ∧ TS w1 wr pb tb qm fb ga gb b c xb a L (k + 1) lt P f C lf A B ∧ Alone lt P lf A C ∧ AR wr ab A) (fun v11 _ _ _ _ _ _ _ _ => nl - (intOf v11).toNat)
  case atStart => exact ⟨0, _, _, _, _, _, _, _, Nat.zero_le _, rfl, H5.out, AL3.out, HA5.out⟩
  case round =>
    obtain ⟨k, lt, P, f, C, lf, A', B', hk, rfl, h7, al7, ar7⟩ := hrel
    clear H5 HA5
    have H7 := Lib.hid h7
    have AL7 := Lib.hid al7
    have AR7 := Lib.hid ar7
    by_cases hlt : k < nl
    · have hkl : k < l.length := by have := HN.out; omega
      have j1 : (k : Int) < (nl : Int) := by omega
      have j0 : (0 : Int) ≤ (k : Int) := by omega
      have zk : IntKind.i64.wrap ((k : Int) + 1) = (k : Int) + 1 := by rw [IntKind.wrap_i64]; have := HN.out; omega
      obtain ⟨s, hs⟩ : ∃ s : Nat, l[k] = s := ⟨_, rfl⟩
      have hs256 : s < 256 := by have := HWF.out l[k] (List.getElem_mem hkl); omega
      obtain ⟨g, off, rfl, hgl, hc⟩ := Ar.SlR.byte (HA1.out.below h7.way) hkl
      have d0 := hc k hkl
      rw [hs] at d0
      obtain ⟨S, hS⟩ : ∃ S : Int, (s : Int) = S := ⟨_, rfl⟩
      rw [hS] at d0
      have zs : IntKind.i64.wrap S = S := by rw [IntKind.wrap_i64]; omega
      obtain ⟨V, hV⟩ : ∃ V : Int, ((9 + k : Nat) : Int) = V := ⟨_, rfl⟩
      have zu : IntKind.u64.wrap (k : Int) = (k : Int) := by rw [IntKind.wrap_u64]; have := HN.out; omega
      have zv : IntKind.u64.wrap (9 + (k : Int)) = V := by rw [IntKind.wrap_u64]; have := HN.out; omega
      have s0 : (0 : Int) ≤ S := by omega
      have s1 : S < 256 := by omega
      have HS : Hid (s < 256 ∧ (s : Int) = S ∧ S.toNat = s) := Lib.hid ⟨hs256, hS, by omega⟩
      have HV : Hid (((9 + k : Nat) : Int) = V ∧ 9 + k < 1000 ∧ k + 1 < 1000) := Lib.hid ⟨hV, by have := HN.out; omega, by have := HN.out; omega⟩
      obtain ⟨N, hN⟩ : ∃ N : Int, ((needN lf [S] : Nat) : Int) = N := ⟨_, rfl⟩
      have hN2 := need_one lf s hs256
      rw [hS] at hN2
      obtain ⟨m, hm⟩ : ∃ m, (leavesL lf 16).length = m := ⟨_, rfl⟩
      have HNN : Hid (((needN lf [S] : Nat) : Int) = N ∧ needN lf [S] = if lf (s / 16) = 0 then 1 else 0) := Lib.hid ⟨hN, hN2⟩
      have HM := Lib.hid hm
      have HLT := Lib.hid hlt
      clear h7 al7 ar7 hk hlt hkl hs hs256 hgl hc hS hV hN hN2 hm
      go_wp2_with fail
      have hb8 : Below wr.heap.size wr (wr.alloc (.cells #[.int .i64 S] 3)) := (Below.refl _ wr).alloc (Nat.le_refl _) _
      refine (tneed (H7.out.below hb8) [S] 1 rfl (by decide) _ 1 (SlR_new wr #[.int .i64 S] 3) N HNN.out.1).mono ?_
      rintro e w9 ⟨rfl, hb9⟩
      have H9 := Lib.hid ((H7.out.below hb8).below hb9)
      have AR9 := Lib.hid ((AR7.out.keep (KeepP.of_below hb8)).keep (KeepP.of_below hb9))
      clear hb8 hb9 d0
      go_wp2_with fail
      refine (tleaves H9.out m HM.out).mono ?_
      rintro e w10 ⟨A10, k10, rfl, _, hb10⟩
      have H10 := Lib.hid (H9.out.below hb10)
      have AR10 := Lib.hid (AR9.out.keep (KeepP.of_below hb10))
      clear hb10
      go_wp2_with fail
      refine (tset H10.out HZ1.out HC1.out HV.out.2.2 s (9 + k) 5 HS.out.1 (by have := HV.out; omega) (by decide) (by omega) S V 5 HS.out.2.1 HV.out.1 rfl).mono ?_
      rintro e w11 ⟨er, l11, P11, f11, C11, lf11, A11, B11, rfl, hr11, h11, k11⟩
      obtain ⟨al11, hcase⟩ := AL7.out.set H10.out hr11 (by omega) HS.out.1
      have H11 := Lib.hid h11
      have AL11 := Lib.hid al11
      have ar11 := AR10.out.keep k11
      have AR11 := Lib.hid ar11
      have hcost := AL7.out.cost
      have hm := HM.out
      have hL := HL.out
      obtain ⟨m2, hm2⟩ : ∃ m2, (leavesL lf11 16).length = m2 := ⟨_, rfl⟩
      have HM2 := Lib.hid hm2
      have hk2 : m2 ≤ 16 := by rw [← hm2]; exact leavesL_length _ _
      have hc2 := al11.cost
      rw [hm2] at hc2
      obtain ⟨CC, hCC⟩ : ∃ CC : Int, (C11 : Int) = CC := ⟨_, rfl⟩
      obtain ⟨D, hD⟩ : ∃ D : Int, 256 * (m2 : Int) = D := ⟨_, rfl⟩
      have y1 : IntKind.i64.wrap (256 * (m2 : Int)) = D := by rw [IntKind.wrap_i64]; omega
      have y2 : IntKind.i64.wrap (128 + D) = CC := by rw [IntKind.wrap_i64]; omega
      have y3 : (CC != CC) = false := by simp
      have HCC : Hid ((C11 : Int) = CC ∧ C11 ≤ 4224) := Lib.hid ⟨hCC, by omega⟩
      -- the round's rest is one for both outcomes
      have rest : ∀ (A2 : Nat → Nat), True := fun _ => trivial
      have key : (er = 0 ∧ A11 = updF A' s (9 + k) ∧ ((N == 0) = true ∨ ((N == 0) = false ∧ decide ((m : Int) < MO) = true))) ∨ (er = 5 ∧ A11 = A' ∧ (N == 0) = false ∧ decide ((m : Int) < MO) = false ∧ m2 = m) := by
        have h0 := HNN.out
        rcases hcase with ⟨e1, e2, _, h3⟩ | ⟨e1, e2, e3, e4, _, e5⟩
        · refine .inl ⟨e1, e2, ?_⟩
          rcases h3 with ⟨q, _⟩ | ⟨q, q2, _⟩
          · rw [if_neg q] at h0
            refine .inl ?_
            have : N = 0 := by omega
            rw [this]; rfl
          · rw [if_pos q] at h0
            refine .inr ⟨?_, decide_eq_true (by omega)⟩
            have : N = 1 := by omega
            rw [this]; rfl
        · rw [if_pos e2] at h0
          refine .inr ⟨e1, e4, ?_, decide_eq_false (by omega), ?_⟩
          · have : N = 1 := by omega
            rw [this]; rfl
          · rw [← hm2, e5, hm]
      clear hr11 h11 k11 hcase al11 ar11 hcost hm hL hm2 hk2 hc2 hCC hD rest
      rcases key with ⟨rfl, rfl, q⟩ | ⟨rfl, rfl, q1, q2, rfl⟩
      · have ca := AR11.out.cell (i := S.toNat) (by have := HS.out; omega)
        have fa := AR11.out.froz S.toNat
        obtain ⟨cs11, ho11, _⟩ := AR11.out
        have g12 : w11.grownBy (w11.setCell ⟨ab, S.toNat, none⟩ (.int .u64 V)) (some ab) := gb_set (World.grownBy.refl _ _) _ _
        have HT : Hid (TS w1 (w11.setCell ⟨ab, S.toNat, none⟩ (.int .u64 V)) pb tb qm fb ga gb b c xb a L (k + 1 + 1) l11 (updF P 7 P11) f11 C11 lf11 (updF A' s (9 + k)) B11) := Lib.hid (H11.out.other ho11 HLO.out g12)
        have HAR : Hid (AR (w11.setCell ⟨ab, S.toNat, none⟩ (.int .u64 V)) ab (updF A' s (9 + k))) := Lib.hid (by
          have := AR11.out.set (i := S.toNat) (by have := HS.out; omega) (9 + k) V HV.out.1
          rw [HS.out.2.2] at this ⊢
          exact this)
        clear g12 ho11
        rcases q with q1 | ⟨q1, q2⟩
        all_goals
          go_wp2_with fail
          generalize w11.setCell ⟨ab, S.toNat, none⟩ (.int .u64 V) = wz at HT HAR ⊢
          clear q1 ca fa
          go_loopw [16, 17, 18] (fun v16 _ _ wx => wx = wz ∧ ∃ t : Nat, t ≤ 256 ∧ v16 = .int .i64 (t : Int)) (fun v16 _ _ _ => 256 - (intOf v16).toNat)
          case atStart => exact ⟨rfl, 0, Nat.zero_le _, rfl⟩
          case round =>
            obtain ⟨rfl, t, ht, rfl⟩ := hrel
            by_cases q : t < 256
            · have u1 : decide ((t : Int) < 256) = true := decide_eq_true (by omega)
              have u0 : (0 : Int) ≤ (t : Int) := by omega
              have u2 : (t : Int) < 256 := by omega
              have zt : IntKind.i64.wrap ((t : Int) + 1) = (t : Int) + 1 := by rw [IntKind.wrap_i64]; omega
              obtain ⟨X1, hX1⟩ : ∃ X : Int, ((updF A' s (9 + k) t : Nat) : Int) = X := ⟨_, rfl⟩
              obtain ⟨Y1, hY1⟩ : ∃ Y : Int, (B11 t : Int) = Y := ⟨_, rfl⟩
              have HG := Lib.hid (tget_in HT.out t q (t : Int) X1 Y1 rfl hX1 hY1)
              have ca := HAR.out.cell q
              rw [hX1] at ca
              have n1 : (X1 != X1) = false := by simp
              have HQ := Lib.hid q
              clear hX1 hY1 q ht
              go_wp2_with fail
              refine HG.out.mono ?_
              rintro e w' ⟨rfl, hw⟩
              have hw2 := hw.symm
              clear hw
              subst hw2
              go_wp2
              go_roundw
              case rel => exact ⟨by first | rfl | trivial, t + 1, HQ.out, by go_num⟩
              case measure => have := HQ.out; (try simp [intOf]) <;> omega
            · have u1 : decide ((t : Int) < 256) = false := decide_eq_false (by omega)
              clear q ht
              go_wp2_with fail
              refine (pquota HT.out.pl).mono ?_
              rintro e w' ⟨rfl, hw⟩
              have hw2 := hw.symm
              clear hw
              subst hw2
              go_wp2_with fail
              refine (quse_any HT.out.pl.qu (by have := HCC.out; omega) CC HCC.out.1).mono ?_
              rintro e w20 ⟨rfl, hb20⟩
              have H20 := Lib.hid (HT.out.below hb20)
              have AR20 := Lib.hid (HAR.out.keep (KeepP.of_below hb20))
              clear hb20
              go_wp2_with fail
              refine (tleaves H20.out m2 HM2.out).mono ?_
              rintro e w21 ⟨A21, k21, rfl, _, hb21⟩
              have H21 := Lib.hid (H20.out.below hb21)
              have AR21 := Lib.hid (AR20.out.keep (KeepP.of_below hb21))
              clear hb21
              go_wp2
              go_roundw
              case rel => exact ⟨k + 1, _, _, _, _, _, _, _, HLT.out, by go_num, H21.out, AL11.out, AR21.out⟩
              case measure => have := HLT.out; (try simp [intOf]) <;> omega
      · go_wp2_with fail
        refine (tleaves H11.out m2 HM2.out).mono ?_
        rintro e wz ⟨A13, k13, rfl, _, hb13⟩
        have HT := Lib.hid (H11.out.below hb13)
        have HAR := Lib.hid (AR11.out.keep (KeepP.of_below hb13))
        clear hb13
        go_wp2_with fail
        clear q1 q2
        go_loopw [16, 17, 18] (fun v16 _ _ wx => wx = wz ∧ ∃ t : Nat, t ≤ 256 ∧ v16 = .int .i64 (t : Int)) (fun v16 _ _ _ => 256 - (intOf v16).toNat)
        case atStart => exact ⟨rfl, 0, Nat.zero_le _, rfl⟩
        case round =>
          obtain ⟨rfl, t, ht, rfl⟩ := hrel
          by_cases q : t < 256
          · have u1 : decide ((t : Int) < 256) = true := decide_eq_true (by omega)
            have u0 : (0 : Int) ≤ (t : Int) := by omega
            have u2 : (t : Int) < 256 := by omega
            have zt : IntKind.i64.wrap ((t : Int) + 1) = (t : Int) + 1 := by rw [IntKind.wrap_i64]; omega
            obtain ⟨X1, hX1⟩ : ∃ X : Int, (A11 t : Int) = X := ⟨_, rfl⟩
            obtain ⟨Y1, hY1⟩ : ∃ Y : Int, (B11 t : Int) = Y := ⟨_, rfl⟩
            have HG := Lib.hid (tget_in HT.out t q (t : Int) X1 Y1 rfl hX1 hY1)
            have ca := HAR.out.cell q
            rw [hX1] at ca
            have n1 : (X1 != X1) = false := by simp
            have HQ := Lib.hid q
            clear hX1 hY1 q ht
            go_wp2_with fail
            refine HG.out.mono ?_
            rintro e w' ⟨rfl, hw⟩
            have hw2 := hw.symm
            clear hw
            subst hw2
            go_wp2
            go_roundw
            case rel => exact ⟨by first | rfl | trivial, t + 1, HQ.out, by go_num⟩
            case measure => have := HQ.out; (try simp [intOf]) <;> omega
          · have u1 : decide ((t : Int) < 256) = false := decide_eq_false (by omega)
            clear q ht
            go_wp2_with fail
            refine (pquota HT.out.pl).mono ?_
            rintro e w' ⟨rfl, hw⟩
            have hw2 := hw.symm
            clear hw
            subst hw2
            go_wp2_with fail
            refine (quse_any HT.out.pl.qu (by have := HCC.out; omega) CC HCC.out.1).mono ?_
            rintro e w20 ⟨rfl, hb20⟩
            have H20 := Lib.hid (HT.out.below hb20)
            have AR20 := Lib.hid (HAR.out.keep (KeepP.of_below hb20))
            clear hb20
            go_wp2_with fail
            refine (tleaves H20.out m2 HM2.out).mono ?_
            rintro e w21 ⟨A21, k21, rfl, _, hb21⟩
            have H21 := Lib.hid (H20.out.below hb21)
            have AR21 := Lib.hid (AR20.out.keep (KeepP.of_below hb21))
            clear hb21
            go_wp2
            go_roundw
            case rel => exact ⟨k + 1, _, _, _, _, _, _, _, HLT.out, by go_num, H21.out, AL11.out, AR21.out⟩
            case measure => have := HLT.out; (try simp [intOf]) <;> omega
    · have j1 : ¬ ((k : Int) < (nl : Int)) := by omega
      obtain ⟨m, hm⟩ : ∃ m, (leavesL lf 16).length = m := ⟨_, rfl⟩
      have hcost := AL7.out.cost
      rw [hm] at hcost
      have hle := H7.out.pl.le.1
      have q1 : decide ((m : Int) ≤ MO) = true := decide_eq_true (by have := HL.out; omega)
      have HM := Lib.hid hm
      clear h7 al7 ar7 hk hlt hm hcost hle
      go_wp2_with fail
      refine (tleaves H7.out m HM.out).mono ?_
      rintro e w10 ⟨A10, k10, rfl, _, hb10⟩
      have HW := Lib.hid (HB.out.trans ((H7.out.below hb10).way.mono HB.out.size))
      clear hb10
      go_wp2
      go_ret
      exact ⟨rfl, HW.out⟩
theorem fails_any (m0 : Nat) (hm0 : m0 ≤ 255) (l : List Nat) (A : Option Addr) (cap : Nat) (hwf : ∀ x ∈ l, x < 256) (w : World) (hZ : TabZ w) (hC : TabC w) (hA : SlR w A (Ar.u8s l)) : Calls Tryd.prog 4 #[.int .u8 (m0 : Int), .slice A l.length cap] w fun e w' => e = .returned (.bool true) ∧ Below w.heap.size w w' := by
  by_cases h : 60 < l.length
  · exact fails_long m0 A _ cap h w hZ hC
  · exact fails_short m0 hm0 l A _ cap rfl (by omega) hwf w hZ hC hA
end Go.Proofs.YtflkoabgkgegjaaDoor
