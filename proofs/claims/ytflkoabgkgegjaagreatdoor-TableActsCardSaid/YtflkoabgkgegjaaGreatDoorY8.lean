/- The contract of Give. Condition: the allocator's state is held. And what follows from it. -/
import Derived.Test.YtflkoabgkgegjaaGreatDoorY6
/- The contract of Give. Condition: the allocator's state is held. -/
namespace Go.Proofs.YtflkoabgkgegjaaGreatDoor
open Go.RowKit Go.Maps
variable {V W w : World} {S : List (Option Addr × List Value)} {b top : Nat} {gm gw : Nat → Nat} {mu n : Nat} {F : Nat → Nat → Bool} {U : Int → Option Nat}

theorem give_nil (x : Int) (w : World) : Calls Tryz.prog 85 #[.pointer none, .int .i64 x] w fun e w' => e = .returned (.int .i64 1) ∧ w' = w := by
  go_enter Tryz.func85, Tryz.ntmps85
  go_wp2
  go_ret
  exact ⟨rfl, rfl⟩
theorem give_none (h : BSt V W S w b top gm gw mu n F U) (x : Int) (hx : (Lit.int .i64 x).wf = true) (hu : U x = none) : Calls Tryz.prog 85 #[.pointer (some ⟨b, 0, none⟩), .int .i64 x] w fun e w' => e = .returned (.int .i64 6) ∧ w' = w := by
  obtain ⟨D, ho, hh, ha⟩ := h.used
  have c := h.c22
  have h2 := hh x hx
  rw [hu] at h2
  have HO := Lib.hid ho
  have HX := Lib.hid hx
  have h2 : Maps.has D (.int .i64 x) = false := h2
  clear h hh ha ho hx hu
  go_enter Tryz.func85, Tryz.ntmps85
  go_wp2_with (first | (at_lookup; refine wpList_lookup_own_ok_int _ rfl _ _ 125 rfl 3 3 .i64 keyed_int Tryz.underlying125 Tryz.underlying3 (zeroI _) mu n D rfl HO.out _ _ rfl (keyOf_int_mk Tryz.underlying3 HX.out) ?_; intro c hat hwc; clear hat hwc; rw [h2]) | fail)
  go_ret
  exact ⟨rfl, rfl⟩
theorem xor_one (i : Nat) (hi : i < 4611686018427387904) : bits .xor .i64 (i : Int) 1 = ((i ^^^ 1 : Nat) : Int) := by
  have h1 : (BitVec.ofInt 64 (i : Int)).toNat = i := by rw [BitVec.ofInt_natCast, BitVec.toNat_ofNat]; exact Nat.mod_eq_of_lt (by omega)
  show IntKind.i64.wrap ((BitVec.ofInt 64 (i : Int) ^^^ BitVec.ofInt 64 1).toNat : Int) = _
  rw [BitVec.toNat_xor, h1, show (BitVec.ofInt 64 1).toNat = 1 by decide, IntKind.wrap_i64]
  have : i ^^^ 1 < 4611686018427387904 := by
    by_cases e : i % 2 = 0
    · rw [xor_even _ e]; omega
    · rw [xor_odd _ (by omega)]; omega
  omega
set_option maxRecDepth 100000 in
set_option maxHeartbeats 1600000 in
theorem give_b (h : BSt V W S w b top gm gw mu n F U) (x : Int) (k0 : Nat) (a bb : List Tl) (hg : Good top (a ++ (k0, false) :: bb)) (hF : FRel F top (a ++ (k0, false) :: bb)) (hu : U x = some k0) (hx : x = 1024 * ((span a : Nat) : Int)) :
    Calls Tryz.prog 85 #[.pointer (some ⟨b, 0, none⟩), .int .i64 x] w fun e w' => e = .returned (.int .i64 0) ∧ ∃ F', BSt V W S w' b top gm gw mu n F' (updU U x none) ∧ FRel F' top (melt (top - k0) a.reverse k0 bb) := by
  have ht := h.tle
  have hM := Mid.of_good hg
  have hk0 := hM.le
  have hall := hM.all
  have htp : 2 ^ top ≤ 2 ^ 20 := Nat.pow_le_pow_right (by decide) ht
  rw [span_rev] at hall
  have hkpos := two_pos k0
  have hwf : Hid ((Lit.int .i64 x).wf = true) := Lib.hid (WalkArith.wf_i64 (by rw [hx]; omega))
  obtain ⟨D, ho, hh, ha⟩ := h.used
  have h1 := hh x hwf.out
  rw [hu] at h1
  have h2 : Maps.has D (.int .i64 x) = true := h1
  have h3 : ∀ c : Int, D.atKey (.int .i64 x) (.lit (.int .i64 0)) = .lit (.int .i64 c) → c = (k0 : Int) := fun c hc => by
    have := ha x k0 hwf.out hu (.lit (.int .i64 0))
    rw [this] at hc
    injection hc with hc
    injection hc with _ hc
    exact hc.symm
  have H3 := Lib.hid h3
  have HO := Lib.hid ho
  have HH := Lib.hid hh
  have HA := Lib.hid ha
  have H := Lib.hid h
  have c := h.c22
  obtain ⟨T, hTT⟩ : ∃ T : Int, (top : Int) = T := ⟨_, rfl⟩
  have HTT := Lib.hid hTT
  obtain ⟨K, hK⟩ : ∃ K : Int, (k0 : Int) = K := ⟨_, rfl⟩
  have HK := Lib.hid hK
  obtain ⟨Z, hS⟩ : ∃ Z : Int, Z = ((1024 * 2 ^ k0 : Nat) : Int) := ⟨_, rfl⟩
  have hkp : 2 ^ k0 ≤ 2 ^ top := Nat.pow_le_pow_right (by decide) hk0
  have hs : ∀ w, (Op.shift .shl .i64 1024 .i64 K).run Tryz.prog w = .ok (.int .i64 Z) w := fun w => run_shl 1024 k0 _ _ _ rfl hK.symm hS (by omega) (by omega) w
  have hS0 : ¬ (Z = 0) := by rw [hS]; omega
  have HM := Lib.hid hM
  have HFR := Lib.hid hF.hole
  have HSS := Lib.hid hS
  have HX := Lib.hid hx
  clear h hh ha ho h3 h1 hu hTT hg hF hM hall htp hkp hS hx hkpos
  go_enter Tryz.func85, Tryz.ntmps85
  go_wp2_with (first | (at_lookup; refine wpList_lookup_own_ok_int _ rfl _ _ 125 rfl 3 3 .i64 keyed_int Tryz.underlying125 Tryz.underlying3 (zeroI _) mu n D rfl HO.out _ _ rfl (keyOf_int_mk Tryz.underlying3 hwf.out) ?_; intro c hat hwc; rw [h2, H3.out c hat, hK]; clear hat hwc hK) | (at_delete; refine wpList_delete_own _ rfl _ _ 125 3 rfl 3 keyed_int Tryz.underlying125 _ mu n D rfl HO.out _ _ rfl (keyOf_int_mk Tryz.underlying3 hwf.out) ?_; intro w1 hown1 hturn1) | fail)
  have hu := UsedAt.del HO.out HH.out HA.out hown1
  have H1 := Lib.hid (H.out.turn hturn1 hu)
  have c0 := H1.out.c0
  rw [HTT.out] at c0
  clear hown1 hturn1 hu H hs
  go_loopw [5, 7] (fun k i wr => ∃ (m : Nat) (ra b' : List Tl) (F1 : Nat → Nat → Bool), k = .int .i64 (m : Int) ∧ i = .int .i64 ((span ra / 2 ^ m : Nat) : Int) ∧ Mid top ra m b' ∧ HRel F1 top ra m b' ∧ BSt V W S wr b top gm gw mu n F1 (updU U x none) ∧ melt (top - m) ra m b' = melt (top - k0) a.reverse k0 bb) (fun k _ _ => top - (intOf k).toNat)
  case atStart =>
    refine ⟨k0, a.reverse, bb, F, by rw [HK.out], ?_, HM.out, HFR.out, H1.out, rfl⟩
    have hsp := span_rev a
    have hlt := HM.out.place.2
    have hlt2 := HM.out.place.1
    have hall := HM.out.all
    have htp : 2 ^ top ≤ 2 ^ 20 := Nat.pow_le_pow_right (by decide) ht
    have e : x.tdiv Z = ((span a.reverse / 2 ^ k0 : Nat) : Int) := by
      rw [HX.out, HSS.out, hsp]
      rw [Int.tdiv_eq_ediv_of_nonneg (by omega)]
      have : (1024 : Int) * ((span a : Nat) : Int) = ((1024 * span a : Nat) : Int) := by push_cast; rfl
      rw [this]
      have e2 : ((1024 * span a : Nat) : Int) / ((1024 * 2 ^ k0 : Nat) : Int) = ((1024 * span a / (1024 * 2 ^ k0) : Nat) : Int) := by norm_cast
      rw [e2, Nat.mul_div_mul_left _ _ (by decide)]
    have e3 : wrap64 (x.tdiv Z) = ((span a.reverse / 2 ^ k0 : Nat) : Int) := by
      have h1 := Nat.div_le_self (span a.reverse) (2 ^ k0)
      have h2 := two_pos k0
      rw [e]
      generalize span a.reverse / 2 ^ k0 = q at *
      unfold wrap64
      omega
    exact congrArg (Value.int .i64) e3
  case round =>
    obtain ⟨m, ra, b', F1, rfl, rfl, hm, hr, h4, he⟩ := hrel
    have H4 := Lib.hid h4
    have HE := Lib.hid he
    have HM1 := Lib.hid hm
    have HR1 := Lib.hid hr
    have hmt := hm.le
    have c1 := h4.c0
    rw [HTT.out] at c1
    have htp : 2 ^ top ≤ 2 ^ 20 := Nat.pow_le_pow_right (by decide) ht
    have hil : span ra / 2 ^ m < 2097152 := by
      have := hm.all
      have := two_pos m
      have := Nat.div_le_self (span ra) (2 ^ m)
      omega
    obtain ⟨i, hi⟩ : ∃ i, span ra / 2 ^ m = i := ⟨_, rfl⟩
    rw [hi] at hil ⊢
    have HIL := Lib.hid hil
    have HII := Lib.hid hi
    obtain ⟨I, hI⟩ : ∃ I : Int, (i : Int) = I := ⟨_, rfl⟩
    have cm := h4.ck m hmt
    have HI := Lib.hid hI
    have m0 : (0 : Int) ≤ (m : Int) := by omega
    have m1 : (m : Int) < 21 := by omega
    clear h4 he hm hr H1 htp hil hi
    by_cases q : m < top
    · have q1 : decide ((m : Int) < T) = true := decide_eq_true (by have := HTT.out; omega)
      obtain ⟨J, hJ⟩ : ∃ J : Int, J = ((i ^^^ 1 : Nat) : Int) := ⟨_, rfl⟩
      have hx1 : bits .xor .i64 I 1 = J := by rw [hJ, ← hI]; exact xor_one i (by have := HIL.out; omega)
      have hjl : i ^^^ 1 < 2 ^ (top - m) := by rw [← HII.out]; exact HM1.out.buddy_lt q
      have HJ := Lib.hid hJ
      have hbud := HR1.out.buddy HM1.out q
      rw [HII.out] at hbud
      obtain ⟨F2, hF2⟩ : ∃ F2, F2 = setF F1 m (i ^^^ 1) false := ⟨_, rfl⟩
      have HF2 := Lib.hid hF2
      have HJL := Lib.hid hjl
      simp only [hI]
      clear hJ hI hF2 hjl
      cases hst : step ra m b' with
      | none =>
        rw [hst] at hbud
        have HB := Lib.hid hbud
        have HST := Lib.hid hst
        clear hbud hst
        go_wp2_with fail
        refine (set_b H4.out m hmt false (i ^^^ 1) _ HJ.out HJL.out 0 (by rw [HB.out]; rfl) F2 HF2.out).mono ?_
        rintro e w4 ⟨rfl, h5⟩
        have H5 := Lib.hid h5
        have e21 : F2 = F1 := by
          rw [HF2.out]
          funext j y
          unfold setF
          by_cases e : j = m ∧ y = i ^^^ 1
          · rw [if_pos e, e.1, e.2, HB.out]; rfl
          · rw [if_neg e]
        have E21 := Lib.hid e21
        have cm := h5.ck m hmt
        clear h5 e21 c1
        go_wp2_with fail
        obtain ⟨c9, hc9⟩ : ∃ c9 : Int, c9 = if F2 m i = true then 0 else 1 := ⟨_, rfl⟩
        refine (set_b H5.out m hmt true i _ HI.out.symm (by rw [← HII.out]; exact HM1.out.place.2) c9 hc9 _ rfl).mono ?_
        rintro e w6 ⟨rfl, h6⟩
        have H6 := Lib.hid h6
        clear h6 cm hc9
        go_wp2
        go_ret
        refine ⟨rfl, _, H6.out, ?_⟩
        have := HR1.out.stop HM1.out
        rw [HII.out] at this
        rw [E21.out, ← HE.out, melt_stop HST.out]
        exact this
      | some y =>
        obtain ⟨ra', b''⟩ := y
        rw [hst] at hbud
        have HB := Lib.hid hbud
        have HST := Lib.hid hst
        clear hbud hst
        go_wp2_with fail
        refine (set_b H4.out m hmt false (i ^^^ 1) _ HJ.out HJL.out 1 (by rw [HB.out]; rfl) F2 HF2.out).mono ?_
        rintro e w4 ⟨rfl, h5⟩
        have H5 := Lib.hid h5
        have hst2 := HR1.out.step_ HM1.out HST.out
        rw [HII.out, ← HF2.out] at hst2
        have HS2 := Lib.hid hst2
        have hi2 : wrap64 (I.tdiv 2) = ((i / 2 : Nat) : Int) := by
          have h1 := HI.out
          have h2 := HIL.out
          rw [← h1, Int.tdiv_eq_ediv_of_nonneg (by omega)]
          unfold wrap64
          omega
        have HI2 := Lib.hid hi2
        clear h5 hst2 c1 cm hi2
        go_wp2
        go_roundw
        case rel =>
          refine ⟨m + 1, ra', b'', F2, by go_num, ?_, HM1.out.step_ HST.out, HS2.out.1, H5.out, ?_⟩
          · rw [HS2.out.2]
            exact congrArg (Value.int .i64) HI2.out
          · rw [← HE.out]
            obtain ⟨d, hd⟩ : ∃ d, top - m = d + 1 := ⟨top - m - 1, by omega⟩
            rw [hd, melt_step HST.out, show top - (m + 1) = d by omega]
        case measure => (try simp [intOf]) <;> omega
    · have q1 : decide ((m : Int) < T) = false := decide_eq_false (by have := HTT.out; omega)
      simp only [hI]
      clear hI
      go_wp2_with fail
      obtain ⟨c9, hc9⟩ : ∃ c9 : Int, c9 = if F1 m i = true then 0 else 1 := ⟨_, rfl⟩
      refine (set_b H4.out m hmt true i _ HI.out.symm (by rw [← HII.out]; exact HM1.out.place.2) c9 hc9 _ rfl).mono ?_
      rintro e w6 ⟨rfl, h6⟩
      have H6 := Lib.hid h6
      clear h6 cm c1 hc9
      go_wp2
      go_ret
      refine ⟨rfl, _, H6.out, ?_⟩
      have := HR1.out.stop HM1.out
      rw [HII.out] at this
      rw [← HE.out, show top - m = 0 by omega]
      exact this
end Go.Proofs.YtflkoabgkgegjaaGreatDoor
/- The contract of New. Condition: the table of TrailingZeros64. -/
namespace Go.Proofs.YtflkoabgkgegjaaGreatDoor
open Go.RowKit Go.Maps
theorem onescount_any (x : Nat) (hx : x < 18446744073709551616) (w : World) : Calls Tryz.prog 65 #[.int .u64 (x : Int)] w fun e w' => e = .returned (.int .i64 ((pop x : Nat) : Int)) ∧ w' = w := by
  go_enter Tryz.func65, Tryz.ntmps65
  go_wp2_with (go_at_call 63; refine (ones_any x hx _).mono ?_; rintro e w' ⟨rfl, rfl⟩)
  go_ret
  exact ⟨rfl, rfl⟩
theorem trail_any (x : Nat) (hx : x < 18446744073709551616) (w : World) (hT : TabZ w) : Calls Tryz.prog 66 #[.int .u64 (x : Int)] w fun e w' => e = .returned (.int .i64 ((Lib.ctz 64 x : Nat) : Int)) ∧ w' = w := by
  go_enter Tryz.func66, Tryz.ntmps66
  go_wp2_with (go_at_call 89; refine (tz_any x hx _ hT).mono ?_; rintro e w' ⟨rfl, rfl⟩)
  go_ret
  exact ⟨rfl, rfl⟩
theorem ctz_pow (k : Nat) (hk : k < 64) : Lib.ctz 64 (2 ^ k) = k := by
  have h1 : (2 : Nat) ^ k < 2 ^ 64 := Nat.pow_lt_pow_right (by omega) hk
  obtain ⟨a, b, c⟩ := ctz_bits (2 ^ k) (by have := two_pos k; omega) (by simpa using h1)
  by_cases e : Lib.ctz 64 (2 ^ k) = k
  · exact e
  · rw [Nat.testBit_two_pow] at b
    simp at b
    exact absurd b.symm e
theorem pop_pow (k : Nat) (hk : k < 64) : pop (2 ^ k) = 1 := by
  have := pop_on 0 k hk (by simp)
  rw [Nat.zero_xor] at this
  rw [this]
  rfl
def pRow (top : Nat) (gm : Nat → Nat) (mu k : Nat) : List Value :=
  .int .i64 (top : Int) :: ((List.range 21).map fun j => if j < k then .pointer (some ⟨gm j, 0, none⟩) else .pointer none) ++ [.map (some mu)]
structure PSt (W w : World) (b top : Nat) (gm gw : Nat → Nat) (mu k : Nat) : Prop where
  way : Below W.heap.size W w
  lo : W.heap.size ≤ b
  row : w.heap[b]? = some (.cells (pRow top gm mu k).toArray 128 (0, 0))
  maps : ∀ j, j < k → MapAt w (gm j) (gw j) (2 ^ (top - j)) (List.replicate ((2 ^ (top - j) + 63) / 64) 0)
  wnew : ∀ j, j < k → W.heap.size ≤ gw j
  inj : ∀ i j, i < k → j < k → gw i = gw j → i = j
  used : UsedAt w mu 0 (fun _ => none)
  unew : W.heap.size ≤ mu
theorem PSt.cell {W w : World} {b top : Nat} {gm gw : Nat → Nat} {mu k : Nat} (h : PSt W w b top gm gw mu k) (i : Nat) : w.cell? ⟨b, i, none⟩ = (pRow top gm mu k)[i]? := by
  rw [cell_of_row _ _ _ _ _ _ h.row]; simp
theorem pRow_length (top : Nat) (gm : Nat → Nat) (mu k : Nat) : (pRow top gm mu k).length = 23 := by simp [pRow]
theorem PSt.has {W w : World} {b top : Nat} {gm gw : Nat → Nat} {mu k : Nat} (h : PSt W w b top gm gw mu k) (i : Nat) (hi : i < 23) : ∃ v, w.cell? ⟨b, i, none⟩ = some v := by
  rw [h.cell]
  exact ⟨_, List.getElem?_eq_getElem (by rw [pRow_length]; exact hi)⟩
theorem PSt.c0 {W w : World} {b top : Nat} {gm gw : Nat → Nat} {mu k : Nat} (h : PSt W w b top gm gw mu k) : w.cell? ⟨b, 0, none⟩ = some (.int .i64 (top : Int)) := h.cell 0
theorem frozen_of_row (w : World) (g i : Nat) (t : TypeId) (xs : Array Value) (h : w.heap[g]? = some (.cells xs t (0, 0))) : w.frozen? ⟨g, i, none⟩ = false := by
  simp [World.frozen?, h]
theorem PSt.drew {W w : World} {b top : Nat} {gm gw : Nat → Nat} {mu k : Nat} (h : PSt W w b top gm gw mu k) : PSt W w.drew b top gm gw mu k :=
  ⟨h.way.trans ((Below.refl _ _).drew.mono h.way.size), h.lo, h.row, h.maps, h.wnew, h.inj, h.used, h.unew⟩
theorem pRow_set (top : Nat) (gm : Nat → Nat) (mu k g : Nat) (hk : k < 21) : (pRow top gm mu k).set (1 + k) (.pointer (some ⟨g, 0, none⟩)) = pRow top (fun j => if j = k then g else gm j) mu (k + 1) := by
  apply List.ext_getElem?
  intro i
  rw [List.getElem?_set, pRow_length]
  unfold pRow
  cases i with
  | zero => rw [if_neg (by omega)]; rfl
  | succ i =>
    simp only [List.cons_append, List.getElem?_cons_succ]
    by_cases hi : i < 21
    · rw [List.getElem?_append_left (by simpa using hi), List.getElem?_append_left (by simpa using hi)]
      simp only [List.getElem?_map, List.getElem?_range hi, Option.map_some]
      by_cases e : i = k
      · subst e
        rw [if_pos (by omega), if_pos (by omega)]
        simp
      · rw [if_neg (by omega)]
        by_cases q : i < k
        · simp [q, e]; omega
        · simp [q]; omega
    · rw [if_neg (by omega), List.getElem?_append_right (by simpa using hi), List.getElem?_append_right (by simpa using hi)]
      simp
theorem PSt.store {W w w' : World} {b top : Nat} {gm gw : Nat → Nat} {mu k : Nat} (h : PSt W w b top gm gw mu k) (i : Nat) (hi : i < 21) (hb : Below w.heap.size w w') : (∃ v, w'.cell? ⟨b, 1 + i, none⟩ = some v) ∧ w'.frozen? ⟨b, 1 + i, none⟩ = false := by
  have hr := (hb.block b (blt h.row)).trans h.row
  refine ⟨?_, frozen_of_row _ _ _ _ _ hr⟩
  rw [cell_of_row _ _ _ _ _ _ hr]
  exact ⟨_, by rw [List.getElem?_toArray]; exact List.getElem?_eq_getElem (by rw [pRow_length]; omega)⟩
/-- a map is laid and stored -/
theorem PSt.step {W w w' : World} {b top : Nat} {gm gw : Nat → Nat} {mu k : Nat} (h : PSt W w b top gm gw mu k) (hk : k < 21) (hb : Below w.heap.size w w') (g1 g0 : Nat) (hm : MapAt w' g1 g0 (2 ^ (top - k)) (List.replicate ((2 ^ (top - k) + 63) / 64) 0)) (hg0 : w.heap.size ≤ g0) (hg1 : w.heap.size ≤ g1) :
    PSt W (w'.setCell ⟨b, 1 + k, none⟩ (.pointer (some ⟨g1, 0, none⟩))) b top (fun j => if j = k then g1 else gm j) (fun j => if j = k then g0 else gw j) mu (k + 1) := by
  have hbl := blt h.row
  have hrow := (hb.block b hbl).trans h.row
  have hg : w'.grownBy (w'.setCell ⟨b, 1 + k, none⟩ (.pointer (some ⟨g1, 0, none⟩))) (some b) := gb_set (World.grownBy.refl _ _) _ _
  have hway := h.way.trans (hb.mono h.way.size)
  have keep : ∀ (g : Nat) (o : Obj), w'.heap[g]? = some o → g ≠ b → (w'.setCell ⟨b, 1 + k, none⟩ (.pointer (some ⟨g1, 0, none⟩))).heap[g]? = some o := fun g o ho hne => (hg.block g (blt ho) (fun e => hne (by injection e))).trans ho
  have hnb : ∀ (g : Nat) (xs : Array Value) (t : TypeId), w'.heap[g]? = some (.cells xs t (0, 0)) → t ≠ 128 → g ≠ b := fun g xs t hh ht e => by
    subst e
    rw [hrow] at hh
    injection hh with hh
    injection hh with _ h2
    exact ht h2.symm
  have kmap : ∀ (a c n : Nat) (ws : List Nat), MapAt w' a c n ws → MapAt (w'.setCell ⟨b, 1 + k, none⟩ (.pointer (some ⟨g1, 0, none⟩))) a c n ws := fun a c n ws m =>
    ⟨keep _ _ m.1 (hnb _ _ _ m.1 (by decide)), keep _ _ m.2.1 (hnb _ _ _ m.2.1 (by decide)), m.2.2⟩
  refine ⟨hway.trans (grownBy_below hg h.lo hway.size), h.lo, ?_, fun j hj => ?_, fun j hj => ?_, fun i j hi hj e => ?_, ?_, h.unew⟩
  · rw [heap_setCell_same w' b (1 + k) _ _ _ hrow, List.setIfInBounds_toArray, pRow_set _ _ _ _ _ hk]
  · by_cases e : j = k
    · subst e
      simp only [if_true]
      exact kmap _ _ _ _ hm
    · simp only [if_neg e]
      exact kmap _ _ _ _ ((h.maps j (by omega)).below hb)
  · by_cases e : j = k
    · simp only [if_pos e]
      exact Nat.le_trans h.way.size hg0
    · simp only [if_neg e]
      exact h.wnew j (by omega)
  · by_cases e1 : i = k
    · by_cases e2 : j = k
      · omega
      · simp only [if_pos e1, if_neg e2] at e
        have := (h.maps j (by omega)).lt.2
        omega
    · by_cases e2 : j = k
      · simp only [if_pos e2, if_neg e1] at e
        have := (h.maps i (by omega)).lt.2
        omega
      · simp only [if_neg e2, if_neg e1] at e
        exact h.inj i j (by omega) (by omega) e
  · obtain ⟨D, ⟨es, cl, h1, h2⟩, h3⟩ := h.used
    refine ⟨D, ⟨es, cl, keep _ _ ((hb.block mu (blt h1)).trans h1) (fun e => ?_), h2⟩, h3⟩
    subst e
    rw [h.row] at h1
    injection h1 with h1
    cases h1
theorem PSt.done {W w : World} {b top : Nat} {gm gw : Nat → Nat} {mu : Nat} (h : PSt W w b top gm gw mu (top + 1)) (ht : top ≤ 20) : BSt W W [] w b top gm gw mu 0 (fun _ _ => false) (fun _ => none) :=
  ⟨h.way, .of_below h.way, ht, by
    rw [h.row]
    congr 3
    unfold pRow bRow
    congr 2
    apply List.map_congr_left
    intro j _
    by_cases e : j ≤ top
    · rw [if_pos e, if_pos (by omega)]
    · rw [if_neg e, if_neg (by omega)], fun k hk => ⟨_, h.maps k (by omega), fun i _ => bitW_new _ _⟩, fun k hk => h.wnew k (by omega), fun i j hi hj => h.inj i j (by omega) (by omega), h.used, h.unew, fun s hs => absurd hs List.not_mem_nil⟩
theorem PSt.start (w : World) (top : Nat) (cs : Array Value) (hcs : cs = (pRow top (fun _ => 0) w.heap.size 0).toArray) : PSt w ((w.alloc (.map #[] 0)).alloc (.cells cs 128)) (w.heap.size + 1) top (fun _ => 0) (fun _ => 0) w.heap.size 0 := by
  subst hcs
  have e1 := heap_alloc_new (w.alloc (.map #[] 0)) (.cells (pRow top (fun _ => 0) w.heap.size 0).toArray 128)
  rw [World.size_alloc] at e1
  exact ⟨((Below.refl _ _).alloc (Nat.le_refl _) _).alloc (by simp) _, Nat.le_succ _, e1, fun j hj => absurd hj (Nat.not_lt_zero _), fun j hj => absurd hj (Nat.not_lt_zero _), fun i j hi => absurd hi (Nat.not_lt_zero _), (UsedAt.made w).grown (World.grownBy_alloc _ _ none) (by simp), Nat.le_refl _⟩
set_option maxRecDepth 100000 in
set_option maxHeartbeats 1600000 in
theorem new_b (N top : Nat) (NN : Int) (hNN : NN = (N : Int)) (hN : N = 1024 * 2 ^ top) (h6 : 6 ≤ top) (ht : top ≤ 20) (w : World) (hT : TabZ w) : Calls Tryz.prog 41 #[.int .i64 NN] w fun e w' => ∃ b gm gw mu, e = .returned (.pointer (some ⟨b, 0, none⟩)) ∧ BSt w w [] w' b top gm gw mu 0 (setF (fun _ _ => false) top 0 true) (fun _ => none) := by
  have hp : 2 ^ top ≤ 2 ^ 20 := Nat.pow_le_pow_right (by decide) ht
  have hp6 : 2 ^ 6 ≤ 2 ^ top := Nat.pow_le_pow_right (by decide) h6
  have t1 : decide (NN < 65536) = false := decide_eq_false (by omega)
  have t2 : decide (1073741824 < NN) = false := decide_eq_false (by omega)
  have z1 : IntKind.u64.wrap NN = (N : Int) := by rw [IntKind.wrap_u64]; omega
  obtain ⟨Q, hQ⟩ : ∃ Q : Int, NN.tdiv 1024 = Q := ⟨_, rfl⟩
  have hQ2 : Q = ((2 ^ top : Nat) : Int) := by
    rw [← hQ, hNN, Int.tdiv_eq_ediv_of_nonneg (by omega), hN]
    omega
  have z2 : wrap64 Q = Q := by unfold wrap64; omega
  have z3 : IntKind.u64.wrap Q = ((2 ^ top : Nat) : Int) := by rw [IntKind.wrap_u64]; omega
  have HN := Lib.hid hN
  have HT := Lib.hid hT
  have PN : Hid (pop N = 1) := Lib.hid (by rw [hN, show 1024 * 2 ^ top = 2 ^ (top + 10) by rw [Nat.pow_add, Nat.mul_comm]]; exact pop_pow _ (by omega))
  have hNl : Hid (N < 18446744073709551616) := Lib.hid (by omega)
  have hpl : Hid (2 ^ top < 18446744073709551616) := Lib.hid (by omega)
  have hmm := @run_makeMap Tryz.prog
  clear hp hp6 hNN hN hT hQ2 h6
  go_enter Tryz.func41, Tryz.ntmps41
  go_wp2_with fail
  refine (onescount_any N hNl.out _).mono ?_
  rintro e w' ⟨rfl, rfl⟩
  rw [PN.out]
  go_wp2_with fail
  refine (trail_any (2 ^ top) hpl.out _ HT.out).mono ?_
  rintro e w' ⟨rfl, rfl⟩
  rw [ctz_pow top (by omega)]
  obtain ⟨T, hTT⟩ : ∃ T : Int, (top : Int) = T := ⟨_, rfl⟩
  have HTT := Lib.hid hTT
  rw [hTT]
  obtain ⟨T1, hT1⟩ : ∃ T1 : Int, T + 1 = T1 := ⟨_, rfl⟩
  have HT1 := Lib.hid hT1
  have zT : IntKind.i64.wrap (T + 1) = T1 := by rw [IntKind.wrap_i64]; omega
  clear hT1 hTT t1 t2 z1 z2 z3
  go_wp2_with fail
  rename World => w0
  obtain ⟨mu, hmu⟩ : ∃ mu, mu = w0.heap.size := ⟨_, rfl⟩
  obtain ⟨b, hb⟩ : ∃ b, b = mu + 1 := ⟨_, rfl⟩
  rw [← hmu, ← hb]
  have HMU := Lib.hid hmu
  have HBB := Lib.hid hb
  clear hmu hb hmm
  go_loopw [4, 29] (fun v4 v29 wr => ∃ (k : Nat) (gm gw : Nat → Nat), k ≤ top + 1 ∧ v29 = .int .i64 (k : Int) ∧ PSt w0 wr b top gm gw mu k) (fun _ v29 _ => top + 1 - (intOf v29).toNat)
  case atStart =>
    refine ⟨0, fun _ => 0, fun _ => 0, by omega, rfl, ?_⟩
    rw [HBB.out, HMU.out]
    exact PSt.start _ _ _ (by rw [← HTT.out]; rfl)
  case round =>
    obtain ⟨k, gm, gw, hk, rfl, h⟩ := hrel
    have H := Lib.hid h
    have c0 := h.c0
    rw [HTT.out] at c0
    clear h
    by_cases q : k ≤ top
    · have q1 : decide ((k : Int) < T1) = true := decide_eq_true (by have := HTT.out; have := HT1.out; omega)
      have k0 : (0 : Int) ≤ (k : Int) := by omega
      have k1 : (k : Int) < 21 := by omega
      obtain ⟨S, hS⟩ : ∃ S : Int, S = ((2 ^ (top - k) : Nat) : Int) := ⟨_, rfl⟩
      have hpk : 2 ^ (top - k) ≤ 2 ^ 20 := Nat.pow_le_pow_right (by decide) (by omega)
      have HPK := Lib.hid hpk
      obtain ⟨T2, hT2⟩ : ∃ T2 : Int, T2 = ((top - k : Nat) : Int) := ⟨_, rfl⟩
      have hs : ∀ w, (Op.shift .shl .i64 1 .i64 T2).run Tryz.prog w = .ok (.int .i64 S) w := fun w => run_shl 1 (top - k) _ _ _ rfl hT2 (by rw [hS, Nat.one_mul]) (by omega) (by omega) w
      have zs : IntKind.i64.wrap (T - (k : Int)) = T2 := by have := HTT.out; rw [IntKind.wrap_i64]; omega
      have HS := Lib.hid hS
      clear hS hT2 hpk
      have c0d : wr.drew.cell? ⟨b, 0, none⟩ = some (.int .i64 T) := c0
      clear hk
      go_wp2_with fail
      go_region_law (first | (go_simp; go_at_call 36; (with_reducible refine (new_lit (2 ^ (top - k)) S HS.out _ (by have := HPK.out; omega)).mono ?_); rintro e w8 ⟨rfl, hm, hbw⟩; obtain ⟨⟨v8, hv8⟩, hf8⟩ := H.out.drew.store k (by omega) hbw))
      all_goals
        have hP := H.out.drew.step (by omega) hbw _ _ hm (Nat.le_refl _) (Nat.le_succ _)
        have HP := Lib.hid hP
        clear hP hm hbw
        go_wp2
        go_roundw
        case rel => exact ⟨k + 1, _, _, by omega, by go_num, HP.out⟩
        case measure => (try simp [intOf]) <;> omega
    · have q1 : decide ((k : Int) < T1) = false := decide_eq_false (by have := HTT.out; have := HT1.out; omega)
      have e : k = top + 1 := by omega
      have hP := H.out
      rw [e] at hP
      have hB := hP.done ht
      clear hP e q hk
      have HB := Lib.hid hB
      have ct := hB.ck top (Nat.le_refl _)
      clear hB c0
      have t20 : T < 21 := by have := HTT.out; omega
      have t00 : (0 : Int) ≤ T := by have := HTT.out; omega
      have cz := HB.out.c0
      rw [HTT.out] at cz
      have cT : ∀ w' F', BSt w0 w0 [] w' b top gm gw mu 0 F' (fun _ => none) → w'.cell? ⟨b, 1 + T.toNat, none⟩ = some (.pointer (some ⟨gm top, 0, none⟩)) ∧ w'.cell? ⟨b, 0, none⟩ = some (.int .i64 T) := fun w' F' h => ⟨by rw [show T.toNat = top by have := HTT.out; omega]; exact h.ck top (Nat.le_refl _), by rw [h.c0, HTT.out]⟩
      have KT := Lib.hid cT
      clear cT ct cz
      obtain ⟨c1, c2⟩ := KT.out _ _ HB.out
      have hS := HB.out
      have hSd := HB.out.drew
      go_wp2_with fail
      go_region_held3 (fun w' => w'.cell? ⟨b, 1 + T.toNat, none⟩ = some (.pointer (some ⟨gm top, 0, none⟩)) ∧ w'.cell? ⟨b, 0, none⟩ = some (.int .i64 T)) (first | (exact KT.out _ _ (by assumption)) | (exact KT.out _ _ (BSt.alloc (by assumption) _)) | (exact KT.out _ _ (BSt.alloc hS _).drew)) (first | (go_at_call 37; (with_reducible refine (set_b hSd top (Nat.le_refl _) true 0 0 rfl (two_pos _) 1 rfl _ rfl).mono ?_); rintro e w9 ⟨rfl, h9⟩) | (go_at_call 37; (with_reducible refine (set_bd hS top (Nat.le_refl _) true 0 0 rfl (two_pos _) 1 rfl _ rfl).mono ?_); rintro e w9 ⟨rfl, h9⟩))
      all_goals
        have H9 := Lib.hid h9
        clear h9 c1 c2 hS hSd
        go_wp2
        go_ret
        exact ⟨b, gm, gw, mu, rfl, H9.out⟩
end Go.Proofs.YtflkoabgkgegjaaGreatDoor
