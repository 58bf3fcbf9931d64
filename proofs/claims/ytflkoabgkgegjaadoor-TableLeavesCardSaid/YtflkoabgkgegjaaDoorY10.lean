/- The contract of Take. Condition: the allocator's state is held. -/
import Derived.Test.YtflkoabgkgegjaaDoorY8
/- The contract of Take. Condition: the allocator's state is held. -/
namespace Go.Proofs.YtflkoabgkgegjaaDoor
open Go.RowKit Go.Maps
variable {V W w : World} {S : List (Option Addr × List Value)} {b top : Nat} {gm gw : Nat → Nat} {mu n : Nat} {F : Nat → Nat → Bool} {U : Int → Option Nat}

set_option maxRecDepth 100000 in
theorem take_arg (h : BSt V W S w b top gm gw mu n F U) (o : Int) (ho : o < 0 ∨ (top : Int) < o) : Calls Tryd.prog 51 #[.pointer (some ⟨b, 0, none⟩), .int .i64 o] w fun e w' => e = .returned (.tuple #[.int .i64 0, .int .i64 1]) ∧ w' = w := by
  have c := h.c0
  have ht := h.tle
  clear h
  by_cases h0 : o < 0
  · clear ho
    go_enter Tryd.func51, Tryd.ntmps51
    go_wp2
    go_ret2
    exact ⟨rfl, rfl⟩
  · have h1 : (top : Int) < o := by omega
    clear ho
    go_enter Tryd.func51, Tryd.ntmps51
    go_wp2
    go_ret2
    exact ⟨rfl, rfl⟩
theorem take_nil (o : Int) (w : World) : Calls Tryd.prog 51 #[.pointer none, .int .i64 o] w fun e w' => e = .returned (.tuple #[.int .i64 0, .int .i64 1]) ∧ w' = w := by
  go_enter Tryd.func51, Tryd.ntmps51
  go_wp2
  go_ret2
  exact ⟨rfl, rfl⟩
/-- the split, as the loop does it: from the order k at i down to j -/
theorem takeF_self (F : Nat → Nat → Bool) (k i : Nat) : takeF F k k i = setF F k i false := by
  funext j x
  unfold takeF setF
  by_cases q : j = k ∧ x = i
  · rw [if_pos q, if_pos q]
  · rw [if_neg q, if_neg q, if_neg (by omega)]
theorem takeF_step (F : Nat → Nat → Bool) (o k i : Nat) (h : o < k) : takeF F o k i = setF (takeF F (o + 1) k i) o (i * 2 ^ (k - o) + 1) true := by
  funext j x
  unfold setF takeF
  by_cases q : j = k ∧ x = i
  · rw [if_pos q, if_neg (by omega), if_pos q]
  · rw [if_neg q, if_neg q]
    by_cases q2 : j = o ∧ x = i * 2 ^ (k - o) + 1
    · obtain ⟨rfl, rfl⟩ := q2
      rw [if_pos ⟨Nat.le_refl _, h, rfl⟩, if_pos ⟨rfl, rfl⟩]
    · rw [if_neg q2]
      by_cases q3 : o + 1 ≤ j ∧ j < k ∧ x = i * 2 ^ (k - j) + 1
      · rw [if_pos q3, if_pos ⟨by omega, q3.2⟩]
      · rw [if_neg q3, if_neg]
        rintro ⟨h1, h2, h3⟩
        by_cases e : j = o
        · subst e; exact q2 ⟨rfl, h3⟩
        · exact q3 ⟨by omega, h2, h3⟩
/-- what Take finds: no block, or the least order and the first place -/
def FindF (F : Nat → Nat → Bool) (top o : Nat) (r : Option (Nat × Nat)) : Prop := match r with
  | none => ∀ j i, o ≤ j → j ≤ top → i < 2 ^ (top - j) → F j i = false
  | some (k, i) => o ≤ k ∧ k ≤ top ∧ i < 2 ^ (top - k) ∧ F k i = true ∧ (∀ j, j < i → F k j = false) ∧ ∀ j x, o ≤ j → j < k → x < 2 ^ (top - j) → F j x = false
set_option maxRecDepth 100000 in
set_option maxHeartbeats 1600000 in
theorem take_b (h : BSt V W S w b top gm gw mu n F U) (hT : TabZ W) (o : Nat) (O : Int) (hO : O = (o : Int)) (ho : o ≤ top) (hn : n < 1000) : Calls Tryd.prog 51 #[.pointer (some ⟨b, 0, none⟩), .int .i64 O] w fun e w' => ∃ r, FindF F top o r ∧ match r with
    | none => e = .returned (.tuple #[.int .i64 0, .int .i64 4]) ∧ w' = w
    | some (k, i) => e = .returned (.tuple #[.int .i64 ((1024 * (i * 2 ^ k) : Nat) : Int), .int .i64 0]) ∧ BSt V W S w' b top gm gw mu (n + 1) (takeF F o k i) (updU U ((1024 * (i * 2 ^ k) : Nat) : Int) (some o)) := by
  have H := Lib.hid h
  have ht := h.tle
  have HO := Lib.hid hO
  obtain ⟨T, hTT⟩ : ∃ T : Int, (top : Int) = T := ⟨_, rfl⟩
  have HTT := Lib.hid hTT
  have t1 : decide (O < 0) = false := decide_eq_false (by omega)
  have t2 : decide (T < O) = false := decide_eq_false (by omega)
  have c := h.c0
  rw [hTT] at c
  have TW : Hid (TabZ w) := Lib.hid (hT.below hT.lt h.way)
  clear h hT hO hTT
  go_enter Tryd.func51, Tryd.ntmps51
  go_wp2
  go_loopw [6, 7] (fun k i wr => wr = w ∧ ∃ j : Nat, o ≤ j ∧ j ≤ top + 1 ∧ k = .int .i64 (j : Int) ∧ i = .int .i64 (-1) ∧ ∀ m x, o ≤ m → m < j → m ≤ top → x < 2 ^ (top - m) → F m x = false) (fun k _ _ => top + 1 - (intOf k).toNat)
  case atStart => exact ⟨rfl, o, Nat.le_refl _, by omega, by rw [HO.out], rfl, fun m x h1 h2 => by omega⟩
  case round =>
    obtain ⟨rfl, j, hj1, hj2, rfl, rfl, hz⟩ := hrel
    have HZ := Lib.hid hz
    clear hz
    by_cases q : j ≤ top
    · have q1 : decide ((j : Int) ≤ T) = true := decide_eq_true (by have := HTT.out; omega)
      have j0 : (0 : Int) ≤ (j : Int) := by omega
      have j1 : (j : Int) < 21 := by omega
      have c1 := H.out.ck j q
      go_wp2_with fail
      refine (first_b H.out TW.out j q 0 0 rfl (by omega)).mono ?_
      rintro e w' ⟨r, rfl, hr, rfl⟩
      rcases hr with ⟨rfl, hr⟩ | ⟨i, rfl, -, hi, hb, hf⟩
      · have HR := Lib.hid hr
        clear hr
        go_wp2
        go_roundw
        case rel =>
          refine ⟨by first | rfl | trivial, j + 1, by omega, by omega, by go_num, by first | rfl | trivial, fun m x h1 h2 h3 h4 => ?_⟩
          by_cases e : m = j
          · subst e; exact HR.out x (Nat.zero_le _) h4
          · exact HZ.out m x h1 (by omega) h3 h4
        case measure => (try simp [intOf]) <;> omega
      · have p0 : decide ((0 : Int) ≤ (i : Int)) = true := decide_eq_true (by omega)
        have p1 : decide ((i : Int) < (0 : Int)) = false := decide_eq_false (by omega)
        have FD : Hid (FindF F top o (some (j, i))) := Lib.hid ⟨hj1, q, hi, hb, fun x hx => hf x (Nat.zero_le _) hx, fun m x h1 h2 h3 => HZ.out m x h1 h2 (by omega) h3⟩
        have HI := Lib.hid hi
        have HB := Lib.hid hb
        obtain ⟨F1, hF1⟩ : ∃ F1, F1 = setF F j i false := ⟨_, rfl⟩
        have HF1 := Lib.hid hF1
        clear hf hb hi hF1
        have hI2 : Hid (i < 2097152) := Lib.hid (by
          have h1 := HI.out
          have h2 : 2 ^ (top - j) ≤ 2 ^ 20 := Nat.pow_le_pow_right (by decide) (by omega)
          omega)
        go_wp2_with fail
        refine (set_b H.out j q false i _ rfl HI.out 1 (by rw [HB.out]; rfl) F1 HF1.out).mono ?_
        rintro e w2 ⟨rfl, h2⟩
        have H2 := Lib.hid h2
        clear h2 c1
        have c := H2.out.c0
        rw [HTT.out] at c
        rename World => wa
        go_wp2_with fail
        rename World => wb
        go_loopw [6, 7] (fun k y wr => ∃ m, o ≤ m ∧ m ≤ j ∧ k = .int .i64 (m : Int) ∧ y = .int .i64 ((i * 2 ^ (j - m) : Nat) : Int) ∧ BSt V W S wr b top gm gw mu n (takeF F m j i) U) (fun k _ _ => (intOf k).toNat)
        case atStart => exact ⟨j, hj1, Nat.le_refl _, rfl, by simp, by rw [takeF_self, ← HF1.out]; exact H2.out⟩
        case round =>
          obtain ⟨m, hm1, hm2, rfl, rfl, h3⟩ := hrel
          have H3 := Lib.hid h3
          have c3 := h3.c0
          rw [HTT.out] at c3
          clear h3 H2
          have hpw : Hid (i * 2 ^ (j - m) < 2097152) := Lib.hid (by
            have h1 := HI.out
            have h2 : i * 2 ^ (j - m) < 2 ^ (top - m) := by
              have e : 2 ^ (top - m) = 2 ^ (top - j) * 2 ^ (j - m) := by rw [← Nat.pow_add]; congr 1; omega
              rw [e]
              exact Nat.mul_lt_mul_of_pos_right h1 (two_pos _)
            have h3 : 2 ^ (top - m) ≤ 2 ^ 20 := Nat.pow_le_pow_right (by decide) (by omega)
            omega)
          obtain ⟨y, hy⟩ : ∃ y, y = i * 2 ^ (j - m) := ⟨_, rfl⟩
          rw [← hy] at hpw ⊢
          have HY := Lib.hid hy
          clear hy
          by_cases e : o < m
          · have e1 : decide (O < (m : Int)) = true := decide_eq_true (by have := HO.out; omega)
            have m0 : (1 : Int) ≤ (m : Int) := by omega
            have m1 : (m : Int) < 22 := by omega
            obtain ⟨m', hm'⟩ : ∃ m', m = m' + 1 := ⟨m - 1, by omega⟩
            subst hm'
            have zm : IntKind.i64.wrap (((m' + 1 : Nat) : Int) - 1) = (m' : Int) := by rw [IntKind.wrap_i64]; omega
            have n0 : (0 : Int) ≤ (m' : Int) := by omega
            have n1 : (m' : Int) < 21 := by omega
            obtain ⟨M, hM⟩ : ∃ M : Int, ((m' + 1 : Nat) : Int) = M := ⟨_, rfl⟩
            obtain ⟨Y, hY⟩ : ∃ Y : Int, (y : Int) = Y := ⟨_, rfl⟩
            obtain ⟨Y2, hY2⟩ : ∃ Y2 : Int, Y * 2 = Y2 := ⟨_, rfl⟩
            obtain ⟨Y3, hY3⟩ : ∃ Y3 : Int, Y2 + 1 = Y3 := ⟨_, rfl⟩
            have z1 : IntKind.i64.wrap (Y * 2) = Y2 := by rw [IntKind.wrap_i64]; have := hpw.out; omega
            have z2 : IntKind.i64.wrap (Y2 + 1) = Y3 := by rw [IntKind.wrap_i64]; have := hpw.out; omega
            rw [hM] at zm e1 m0 m1
            simp only [hM, hY]
            have HY3 : Hid (Y3 = ((y * 2 + 1 : Nat) : Int)) := Lib.hid (by omega)
            have HY2 : Hid (Y2 = ((y * 2 : Nat) : Int)) := Lib.hid (by omega)
            have HM := Lib.hid hM
            clear hM hY hY2 hY3
            have c4 := H3.out.ck m' (by omega)
            obtain ⟨F2, hF2⟩ : ∃ F2, F2 = takeF F m' j i := ⟨_, rfl⟩
            have HF2 := Lib.hid hF2
            clear hF2
            go_wp2_with fail
            have hin : y * 2 + 1 < 2 ^ (top - m') := by
              have h1 := HI.out
              rw [HY.out]
              have e5 : 2 ^ (top - m') = 2 ^ (top - j) * 2 ^ (j - (m' + 1)) * 2 := by rw [← Nat.pow_add, ← Nat.pow_succ]; congr 1; omega
              rw [e5]
              have := Nat.mul_le_mul_right (2 ^ (j - (m' + 1))) (show i + 1 ≤ 2 ^ (top - j) by omega)
              have := two_pos (j - (m' + 1))
              rw [Nat.add_mul, Nat.one_mul] at *
              omega
            have hpl : y * 2 = i * 2 ^ (j - m') := by
              rw [HY.out, Nat.mul_assoc, ← Nat.pow_succ]
              congr 2
              omega
            refine (set_b H3.out m' (by omega) true (y * 2 + 1) _ HY3.out hin 1 ?_ F2 ?_).mono ?_
            · rw [if_neg]
              intro hc
              unfold takeF at hc
              rw [if_neg (by omega), if_neg (by omega)] at hc
              have := FD.out.2.2.2.2.2 m' (y * 2 + 1) (by omega) (by omega) hin
              rw [this] at hc
              cases hc
            · rw [HF2.out, takeF_step F m' j i (by omega), hpl]
            rintro e w4 ⟨rfl, h4⟩
            have H4 := Lib.hid h4
            clear h4 c4 c3
            go_wp2
            go_roundw
            case rel => exact ⟨m', by omega, by omega, by first | rfl | trivial, by rw [HY2.out, hpl], by rw [← HF2.out]; exact H4.out⟩
            case measure => have := HM.out; simp [intOf]; omega
          · have e1 : decide (O < (m : Int)) = false := decide_eq_false (by have := HO.out; omega)
            have e2 : m = o := by omega
            subst e2
            have c5 := H3.out.c22
            clear e hm1
            obtain ⟨Y, hY⟩ : ∃ Y : Int, (y : Int) = Y := ⟨_, rfl⟩
            obtain ⟨Y2, hY2⟩ : ∃ Y2 : Int, Y * 1024 = Y2 := ⟨_, rfl⟩
            obtain ⟨at_, hat_⟩ : ∃ at_ : Int, at_ = ((1024 * (i * 2 ^ j) : Nat) : Int) := ⟨_, rfl⟩
            have hij : i * 2 ^ j < 2 ^ top := (lt_of_mul q).1 HI.out
            have hij2 : 2 ^ top ≤ 2 ^ 20 := Nat.pow_le_pow_right (by decide) ht
            have hyo : y * 1024 * 2 ^ m = 1024 * (i * 2 ^ j) := by
              rw [HY.out, Nat.mul_right_comm, Nat.mul_assoc i, ← Nat.pow_add, show j - m + m = j by omega, Nat.mul_comm]
            have hs : ∀ w, (Op.shift .shl .i64 Y2 .i64 O).run Tryd.prog w = .ok (.int .i64 at_) w := fun w =>
              run_shl (y * 1024) m _ _ _ (by omega) HO.out (by rw [hat_, hyo]) (by rw [hyo]; omega) (by omega) w
            have hwf : Hid ((Lit.int .i64 at_).wf = true) := Lib.hid (WalkArith.wf_i64 (by rw [hat_]; omega))
            have hwo : Hid ((Lit.int .i64 O).wf = true) := Lib.hid (WalkArith.wf_i64 (by have := HO.out; omega))
            have HAT := Lib.hid hat_
            obtain ⟨D, ho, hh, ha⟩ := H3.out.used
            have HOw := Lib.hid ho
            have HHa := Lib.hid hh
            have HAt := Lib.hid ha
            have z1 : IntKind.i64.wrap (Y * 1024) = Y2 := by rw [IntKind.wrap_i64]; have := hpw.out; omega
            clear ho hh ha hij hij2 hyo hat_ hY2
            simp only [hY]
            go_wp2_with (first | (at_mapUpdate; refine wpList_mapUpdate_in _ rfl _ _ _ 94 rfl 3 3 keyed_int Tryd.underlying94 _ mu n D rfl HOw.out (by unfold maxLen; omega) _ _ _ rfl rfl (keyOf_int_mk Tryd.underlying3 hwf.out) _ [] (plainElem_int Tryd.underlying3 hwo.out) ?_; intro w1 hown1 hturn1) | fail)
            go_ret2
            rw [HO.out] at hown1
            have hu := UsedAt.put (k := m) HOw.out HHa.out HAt.out hown1
            refine ⟨some (j, i), FD.out, by rw [← HAT.out]; rfl, ?_⟩
            rw [← HAT.out]
            exact H3.out.turn hturn1 hu
    · have q1 : decide ((j : Int) ≤ T) = false := decide_eq_false (by have := HTT.out; omega)
      go_wp2
      go_ret2
      exact ⟨none, fun m x h1 h2 h3 => HZ.out m x h1 (by omega) h2 h3, rfl, rfl⟩
end Go.Proofs.YtflkoabgkgegjaaDoor
