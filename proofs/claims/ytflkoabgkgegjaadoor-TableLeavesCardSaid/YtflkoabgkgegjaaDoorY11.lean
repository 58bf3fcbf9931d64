/- The contract of Give. Condition: the allocator's state is held. -/
import Derived.Test.YtflkoabgkgegjaaDoorY8
/- The contract of Give. Condition: the allocator's state is held. -/
namespace Go.Proofs.YtflkoabgkgegjaaDoor
open Go.RowKit Go.Maps
variable {V W w : World} {S : List (Option Addr × List Value)} {b top : Nat} {gm gw : Nat → Nat} {mu n : Nat} {F : Nat → Nat → Bool} {U : Int → Option Nat}

theorem give_nil (x : Int) (w : World) : Calls Tryd.prog 73 #[.pointer none, .int .i64 x] w fun e w' => e = .returned (.int .i64 1) ∧ w' = w := by
  go_enter Tryd.func73, Tryd.ntmps73
  go_wp2
  go_ret
  exact ⟨rfl, rfl⟩
theorem give_none (h : BSt V W S w b top gm gw mu n F U) (x : Int) (hx : (Lit.int .i64 x).wf = true) (hu : U x = none) : Calls Tryd.prog 73 #[.pointer (some ⟨b, 0, none⟩), .int .i64 x] w fun e w' => e = .returned (.int .i64 6) ∧ w' = w := by
  obtain ⟨D, ho, hh, ha⟩ := h.used
  have c := h.c22
  have h2 := hh x hx
  rw [hu] at h2
  have HO := Lib.hid ho
  have HX := Lib.hid hx
  have h2 : Maps.has D (.int .i64 x) = false := h2
  clear h hh ha ho hx hu
  go_enter Tryd.func73, Tryd.ntmps73
  go_wp2_with (first | (at_lookup; refine wpList_lookup_own_ok_int _ rfl _ _ 94 rfl 3 3 .i64 keyed_int Tryd.underlying94 Tryd.underlying3 (zeroI _) mu n D rfl HO.out _ _ rfl (keyOf_int_mk Tryd.underlying3 HX.out) ?_; intro c hat hwc; clear hat hwc; rw [h2]) | fail)
  go_ret
  exact ⟨rfl, rfl⟩
theorem xor_one (i : Nat) (hi : i < 4611686018427387904) : bits .xor .i64 (i : Int) 1 = ((i ^^^ 1 : Nat) : Int) := by
  have h1 : (BitVec.ofInt 64 (i : Int)).toNat = i := by rw [BitVec.ofInt_natCast, BitVec.toNat_ofNat]; exact Nat.mod_eq_of_lt (by omega)
  show IntKind.i64.wrap ((BitVec.ofInt 64 (i : Int) ^^^ BitVec.ofInt 64 1).toNat : Int) = _
  rw [BitVec.toNat_xor, h1, show (BitVec.ofInt 64 1).toNat = 1 by decide, IntKind.wrap_i64]
  have : i ^^^ 1 < 4611686018427387904 := by
    by_cases e : i % 2 = 0
    · rw [xor_even _ e]; omega
    · rw [xor_odd _ (by omega)]; omega
  omega
set_option maxRecDepth 100000 in
set_option maxHeartbeats 1600000 in
theorem give_b (h : BSt V W S w b top gm gw mu n F U) (x : Int) (k0 : Nat) (a bb : List Tl) (hg : Good top (a ++ (k0, false) :: bb)) (hF : FRel F top (a ++ (k0, false) :: bb)) (hu : U x = some k0) (hx : x = 1024 * ((span a : Nat) : Int)) :
    Calls Tryd.prog 73 #[.pointer (some ⟨b, 0, none⟩), .int .i64 x] w fun e w' => e = .returned (.int .i64 0) ∧ ∃ F', BSt V W S w' b top gm gw mu n F' (updU U x none) ∧ FRel F' top (melt (top - k0) a.reverse k0 bb) := by
  have ht := h.tle
  have hM := Mid.of_good hg
  have hk0 := hM.le
  have hall := hM.all
  have htp : 2 ^ top ≤ 2 ^ 20 := Nat.pow_le_pow_right (by decide) ht
  rw [span_rev] at hall
  have hkpos := two_pos k0
  have hwf : Hid ((Lit.int .i64 x).wf = true) := Lib.hid (WalkArith.wf_i64 (by rw [hx]; omega))
  obtain ⟨D, ho, hh, ha⟩ := h.used
  have h1 := hh x hwf.out
  rw [hu] at h1
  have h2 : Maps.has D (.int .i64 x) = true := h1
  have h3 : ∀ c : Int, D.atKey (.int .i64 x) (.lit (.int .i64 0)) = .lit (.int .i64 c) → c = (k0 : Int) := fun c hc => by
    have := ha x k0 hwf.out hu (.lit (.int .i64 0))
    rw [this] at hc
    injection hc with hc
    injection hc with _ hc
    exact hc.symm
  have H3 := Lib.hid h3
  have HO := Lib.hid ho
  have HH := Lib.hid hh
  have HA := Lib.hid ha
  have H := Lib.hid h
  have c := h.c22
  obtain ⟨T, hTT⟩ : ∃ T : Int, (top : Int) = T := ⟨_, rfl⟩
  have HTT := Lib.hid hTT
  obtain ⟨K, hK⟩ : ∃ K : Int, (k0 : Int) = K := ⟨_, rfl⟩
  have HK := Lib.hid hK
  obtain ⟨Z, hS⟩ : ∃ Z : Int, Z = ((1024 * 2 ^ k0 : Nat) : Int) := ⟨_, rfl⟩
  have hkp : 2 ^ k0 ≤ 2 ^ top := Nat.pow_le_pow_right (by decide) hk0
  have hs : ∀ w, (Op.shift .shl .i64 1024 .i64 K).run Tryd.prog w = .ok (.int .i64 Z) w := fun w => run_shl 1024 k0 _ _ _ rfl hK.symm hS (by omega) (by omega) w
  have hS0 : ¬ (Z = 0) := by rw [hS]; omega
  have HM := Lib.hid hM
  have HFR := Lib.hid hF.hole
  have HSS := Lib.hid hS
  have HX := Lib.hid hx
  clear h hh ha ho h3 h1 hu hTT hg hF hM hall htp hkp hS hx hkpos
  go_enter Tryd.func73, Tryd.ntmps73
  go_wp2_with (first | (at_lookup; refine wpList_lookup_own_ok_int _ rfl _ _ 94 rfl 3 3 .i64 keyed_int Tryd.underlying94 Tryd.underlying3 (zeroI _) mu n D rfl HO.out _ _ rfl (keyOf_int_mk Tryd.underlying3 hwf.out) ?_; intro c hat hwc; rw [h2, H3.out c hat, hK]; clear hat hwc hK) | (at_delete; refine wpList_delete_own _ rfl _ _ 94 3 rfl 3 keyed_int Tryd.underlying94 _ mu n D rfl HO.out _ _ rfl (keyOf_int_mk Tryd.underlying3 hwf.out) ?_; intro w1 hown1 hturn1) | fail)
  have hu := UsedAt.del HO.out HH.out HA.out hown1
  have H1 := Lib.hid (H.out.turn hturn1 hu)
  have c0 := H1.out.c0
  rw [HTT.out] at c0
  clear hown1 hturn1 hu H hs
  go_loopw [5, 7] (fun k i wr => ∃ (m : Nat) (ra b' : List Tl) (F1 : Nat → Nat → Bool), k = .int .i64 (m : Int) ∧ i = .int .i64 ((span ra / 2 ^ m : Nat) : Int) ∧ Mid top ra m b' ∧ HRel F1 top ra m b' ∧ BSt V W S wr b top gm gw mu n F1 (updU U x none) ∧ melt (top - m) ra m b' = melt (top - k0) a.reverse k0 bb) (fun k _ _ => top - (intOf k).toNat)
  case atStart =>
    refine ⟨k0, a.reverse, bb, F, by rw [HK.out], ?_, HM.out, HFR.out, H1.out, rfl⟩
    have hsp := span_rev a
    have hlt := HM.out.place.2
    have hlt2 := HM.out.place.1
    have hall := HM.out.all
    have htp : 2 ^ top ≤ 2 ^ 20 := Nat.pow_le_pow_right (by decide) ht
    have e : x.tdiv Z = ((span a.reverse / 2 ^ k0 : Nat) : Int) := by
      rw [HX.out, HSS.out, hsp]
      rw [Int.tdiv_eq_ediv_of_nonneg (by omega)]
      have : (1024 : Int) * ((span a : Nat) : Int) = ((1024 * span a : Nat) : Int) := by push_cast; rfl
      rw [this]
      have e2 : ((1024 * span a : Nat) : Int) / ((1024 * 2 ^ k0 : Nat) : Int) = ((1024 * span a / (1024 * 2 ^ k0) : Nat) : Int) := by norm_cast
      rw [e2, Nat.mul_div_mul_left _ _ (by decide)]
    have e3 : wrap64 (x.tdiv Z) = ((span a.reverse / 2 ^ k0 : Nat) : Int) := by
      have h1 := Nat.div_le_self (span a.reverse) (2 ^ k0)
      have h2 := two_pos k0
      rw [e]
      generalize span a.reverse / 2 ^ k0 = q at *
      unfold wrap64
      omega
    exact congrArg (Value.int .i64) e3
  case round =>
    obtain ⟨m, ra, b', F1, rfl, rfl, hm, hr, h4, he⟩ := hrel
    have H4 := Lib.hid h4
    have HE := Lib.hid he
    have HM1 := Lib.hid hm
    have HR1 := Lib.hid hr
    have hmt := hm.le
    have c1 := h4.c0
    rw [HTT.out] at c1
    have htp : 2 ^ top ≤ 2 ^ 20 := Nat.pow_le_pow_right (by decide) ht
    have hil : span ra / 2 ^ m < 2097152 := by
      have := hm.all
      have := two_pos m
      have := Nat.div_le_self (span ra) (2 ^ m)
      omega
    obtain ⟨i, hi⟩ : ∃ i, span ra / 2 ^ m = i := ⟨_, rfl⟩
    rw [hi] at hil ⊢
    have HIL := Lib.hid hil
    have HII := Lib.hid hi
    obtain ⟨I, hI⟩ : ∃ I : Int, (i : Int) = I := ⟨_, rfl⟩
    have cm := h4.ck m hmt
    have HI := Lib.hid hI
    have m0 : (0 : Int) ≤ (m : Int) := by omega
    have m1 : (m : Int) < 21 := by omega
    clear h4 he hm hr H1 htp hil hi
    by_cases q : m < top
    · have q1 : decide ((m : Int) < T) = true := decide_eq_true (by have := HTT.out; omega)
      obtain ⟨J, hJ⟩ : ∃ J : Int, J = ((i ^^^ 1 : Nat) : Int) := ⟨_, rfl⟩
      have hx1 : bits .xor .i64 I 1 = J := by rw [hJ, ← hI]; exact xor_one i (by have := HIL.out; omega)
      have hjl : i ^^^ 1 < 2 ^ (top - m) := by rw [← HII.out]; exact HM1.out.buddy_lt q
      have HJ := Lib.hid hJ
      have hbud := HR1.out.buddy HM1.out q
      rw [HII.out] at hbud
      obtain ⟨F2, hF2⟩ : ∃ F2, F2 = setF F1 m (i ^^^ 1) false := ⟨_, rfl⟩
      have HF2 := Lib.hid hF2
      have HJL := Lib.hid hjl
      simp only [hI]
      clear hJ hI hF2 hjl
      cases hst : step ra m b' with
      | none =>
        rw [hst] at hbud
        have HB := Lib.hid hbud
        have HST := Lib.hid hst
        clear hbud hst
        go_wp2_with fail
        refine (set_b H4.out m hmt false (i ^^^ 1) _ HJ.out HJL.out 0 (by rw [HB.out]; rfl) F2 HF2.out).mono ?_
        rintro e w4 ⟨rfl, h5⟩
        have H5 := Lib.hid h5
        have e21 : F2 = F1 := by
          rw [HF2.out]
          funext j y
          unfold setF
          by_cases e : j = m ∧ y = i ^^^ 1
          · rw [if_pos e, e.1, e.2, HB.out]; rfl
          · rw [if_neg e]
        have E21 := Lib.hid e21
        have cm := h5.ck m hmt
        clear h5 e21 c1
        go_wp2_with fail
        obtain ⟨c9, hc9⟩ : ∃ c9 : Int, c9 = if F2 m i = true then 0 else 1 := ⟨_, rfl⟩
        refine (set_b H5.out m hmt true i _ HI.out.symm (by rw [← HII.out]; exact HM1.out.place.2) c9 hc9 _ rfl).mono ?_
        rintro e w6 ⟨rfl, h6⟩
        have H6 := Lib.hid h6
        clear h6 cm hc9
        go_wp2
        go_ret
        refine ⟨rfl, _, H6.out, ?_⟩
        have := HR1.out.stop HM1.out
        rw [HII.out] at this
        rw [E21.out, ← HE.out, melt_stop HST.out]
        exact this
      | some y =>
        obtain ⟨ra', b''⟩ := y
        rw [hst] at hbud
        have HB := Lib.hid hbud
        have HST := Lib.hid hst
        clear hbud hst
        go_wp2_with fail
        refine (set_b H4.out m hmt false (i ^^^ 1) _ HJ.out HJL.out 1 (by rw [HB.out]; rfl) F2 HF2.out).mono ?_
        rintro e w4 ⟨rfl, h5⟩
        have H5 := Lib.hid h5
        have hst2 := HR1.out.step_ HM1.out HST.out
        rw [HII.out, ← HF2.out] at hst2
        have HS2 := Lib.hid hst2
        have hi2 : wrap64 (I.tdiv 2) = ((i / 2 : Nat) : Int) := by
          have h1 := HI.out
          have h2 := HIL.out
          rw [← h1, Int.tdiv_eq_ediv_of_nonneg (by omega)]
          unfold wrap64
          omega
        have HI2 := Lib.hid hi2
        clear h5 hst2 c1 cm hi2
        go_wp2
        go_roundw
        case rel =>
          refine ⟨m + 1, ra', b'', F2, by go_num, ?_, HM1.out.step_ HST.out, HS2.out.1, H5.out, ?_⟩
          · rw [HS2.out.2]
            exact congrArg (Value.int .i64) HI2.out
          · rw [← HE.out]
            obtain ⟨d, hd⟩ : ∃ d, top - m = d + 1 := ⟨top - m - 1, by omega⟩
            rw [hd, melt_step HST.out, show top - (m + 1) = d by omega]
        case measure => (try simp [intOf]) <;> omega
    · have q1 : decide ((m : Int) < T) = false := decide_eq_false (by have := HTT.out; omega)
      simp only [hI]
      clear hI
      go_wp2_with fail
      obtain ⟨c9, hc9⟩ : ∃ c9 : Int, c9 = if F1 m i = true then 0 else 1 := ⟨_, rfl⟩
      refine (set_b H4.out m hmt true i _ HI.out.symm (by rw [← HII.out]; exact HM1.out.place.2) c9 hc9 _ rfl).mono ?_
      rintro e w6 ⟨rfl, h6⟩
      have H6 := Lib.hid h6
      clear h6 cm c1 hc9
      go_wp2
      go_ret
      refine ⟨rfl, _, H6.out, ?_⟩
      have := HR1.out.stop HM1.out
      rw [HII.out] at this
      rw [← HE.out, show top - m = 0 by omega]
      exact this
end Go.Proofs.YtflkoabgkgegjaaDoor
