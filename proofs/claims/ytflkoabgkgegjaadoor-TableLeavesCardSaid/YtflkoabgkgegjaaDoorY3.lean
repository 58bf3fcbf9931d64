/- The contract of Set. Condition: the bits' numbers are read, and lie elsewhere than the map's words. And what follows from it. -/
import Derived.Test.YtflkoabgkgegjaaDoorY2
/- The contract of Set. Condition: the bits' numbers are read, and lie elsewhere than the map's words. -/
namespace Go.Proofs.YtflkoabgkgegjaaDoor
open Go.RowKit

theorem cntL_le (on : Bool) (n : Nat) : ∀ (l : List Int) (ws : List Nat), cntL on n ws l ≤ l.length
  | [], _ => Nat.le_refl _
  | i :: l, ws => by
    have := cntL_le on n l (set1 on n ws i)
    have h1 : (turns on n ws i).toNat ≤ 1 := by cases turns on n ws i <;> simp
    simp only [cntL, List.length_cons]
    omega

theorem flip_val (x b : Nat) (hb : b < 64) (hx : x < 18446744073709551616) : bits .xor .u64 (x : Int) (IntKind.u64.wrap (2 ^ b)) = ((x ^^^ 2 ^ b : Nat) : Int) := by
  have h1 : (2 : Nat) ^ b < 2 ^ 64 := Nat.pow_lt_pow_right (by omega) hb
  have h2 : (2 : Nat) ^ 64 = 18446744073709551616 := by decide
  have e0 : (2 : Int) ^ b = ((2 ^ b : Nat) : Int) := by push_cast; rfl
  rw [e0]
  generalize 2 ^ b = P at *
  have e : IntKind.u64.wrap (P : Int) = (P : Int) := by rw [IntKind.wrap_u64]; omega
  rw [e, u64_xor_nat _ _ hx (by omega)]

set_option maxRecDepth 100000 in
set_option maxHeartbeats 1600000 in
theorem set_any (on : Bool) (l : List Int) (A : Option Addr) (cap : Nat) (W : World) (gm gw n : Nat) (ws : List Nat) (h : MapAt W gm gw n ws) (hA : SlR W A (i64s l)) (hne : l ≠ [] → ∀ a, A = some a → a.block ≠ gw) (hl : l.length ≤ 9223372036854775807) :
    Calls Tryd.prog 42 #[.pointer (some ⟨gm, 0, none⟩), .bool on, .slice A l.length cap] W
      fun e w' => e = .returned (.int .i64 ((cntL on n ws l : Nat) : Int)) ∧ MapAt w' gm gw n (setL on n ws l) ∧ W.grownBy w' (some gw) := by
  have H0 := Lib.hid h
  have HA := Lib.hid hA
  have Hne := Lib.hid hne
  clear h hA hne
  go_enter Tryd.func42, Tryd.ntmps42
  go_wp2_with fail
  go_loopw [7, 12] (fun c i wr => ∃ (k : Nat), k ≤ l.length ∧ i = .int .i64 k ∧ c = .int .i64 ((cntL on n ws (l.take k) : Nat) : Int) ∧ MapAt wr gm gw n (setL on n ws (l.take k)) ∧ W.grownBy wr (some gw)) (fun _ i _ => l.length - (intOf i).toNat)
  case atStart => exact ⟨0, Nat.zero_le _, rfl, rfl, H0.out, World.grownBy.refl _ _⟩
  case round =>
    obtain ⟨k, hk, rfl, rfl, hm, hgr⟩ := hrel
    have Hgr := Lib.hid hgr
    by_cases hlt : k < l.length
    · obtain ⟨b, off, rfl, hx⟩ := ((HA.out.grown hgr (Hne.out (by rintro rfl; simp at hlt))).int hlt)
      have hcl := cntL_le on n (l.take k) ws
      rw [List.length_take] at hcl
      obtain ⟨vs, hvs⟩ : ∃ vs, setL on n ws (l.take k) = vs := ⟨_, rfl⟩
      obtain ⟨c, hc⟩ : ∃ c, cntL on n ws (l.take k) = c := ⟨_, rfl⟩
      have Hvs := Lib.hid hvs
      have Hc := Lib.hid hc
      rw [hvs] at hm
      have HM := Lib.hid hm
      have hcb : c ≤ k := by rw [← hc]; omega
      rw [hc]
      have hw := hm.2.2.1
      clear hm hgr hvs hc hcl
      by_cases h0 : 0 ≤ l[k]
      · by_cases h1 : l[k] < (n : Int)
        · obtain ⟨j, hj0⟩ := Int.eq_ofNat_of_zero_le h0
          have hj : j < n := by omega
          have hl64 := in_len hw hj
          rw [hj0] at hx h0 h1
          by_cases hb : bitW vs j = on
          · have ht : (bitW vs j == on) = true := by simp [hb]
            have Ht : Hid (turns on n vs l[k] = false) := Lib.hid (by rw [hj0]; simp [turns, hb])
            clear hb hw
            go_wp2_with (first | (go_at_call 59; refine (len_any _ gm gw n vs HM.out).mono ?_; rintro e w' ⟨rfl, rfl⟩) | (go_at_call 60; refine (get_yes _ gm gw n vs j hj HM.out).mono ?_; rintro e w' ⟨rfl, rfl⟩))
            go_roundw
            case rel =>
              refine ⟨k + 1, by omega, by go_num, ?_, ?_, Hgr.out⟩
              · rw [List.take_succ_eq_append_getElem hlt, cntL_snoc, Hvs.out, Ht.out, ← Hc.out]; rfl
              · rw [List.take_succ_eq_append_getElem hlt, setL_snoc, Hvs.out, set1, Ht.out]; exact HM.out
            case measure => simp [intOf]; omega
          · have ht : (bitW vs j == on) = false := by simp [hb]
            have Ht : Hid (turns on n vs l[k] = true) := Lib.hid (by rw [hj0]; simp only [turns, Bool.and_eq_true, decide_eq_true_eq, Int.toNat_natCast]; exact ⟨⟨h0, h1⟩, by simp [bne, ht]⟩)
            have Hj := Lib.hid hj0
            have hxw := hw.lt _ (List.getElem_mem hl64)
            clear hb hw hj0
            go_wp2_with (first | (go_at_call 59; refine (len_any _ gm gw n vs HM.out).mono ?_; rintro e w' ⟨rfl, rfl⟩) | (go_at_call 60; refine (get_yes _ gm gw n vs j hj HM.out).mono ?_; rintro e w' ⟨rfl, rfl⟩))
            have c1 := cell_of_row w' gm 1 _ _ _ HM.out.1
            simp at c1
            have v := HM.out.word _ hl64
            have hf : w'.frozen? ⟨gw, j / 64, none⟩ = false := frozen_of_row w' gw _ _ _ HM.out.2.1
            have i4 : (j : Int) < 1048576 := by have := HM.out.2.2.2.1; omega
            have i3 : (j : Int) / 64 < (vs.length : Int) := by omega
            have i5 : ((j : Int) / 64).toNat = j / 64 := by omega
            have s1 : IntKind.i64.wrap ((j : Int) / 64) = (j : Int) / 64 := by rw [IntKind.wrap_i64]; omega
            have s2 : Int.tmod (j : Int) 64 = ((j % 64 : Nat) : Int) := by rw [Int.tmod_eq_emod_of_nonneg (by omega)]; simp
            have s3 : IntKind.i64.wrap ((j % 64 : Nat) : Int) = ((j % 64 : Nat) : Int) := by rw [IntKind.wrap_i64]; omega
            have i6 : (0 : Int) ≤ (j : Int) / 64 := by omega
            have s5 : ((j : Int) % 64).toNat = j % 64 := by omega
            have fv := flip_val vs[j / 64] (j % 64) (by omega) hxw
            clear s3
            go_region_law (fail)
            have hm2 : MapAt (w'.setCell ⟨gw, j / 64, none⟩ (.int .u64 ((vs[j / 64] ^^^ 2 ^ (j % 64) : Nat) : Int))).drew gm gw n (flipW vs j) := HM.out.flip hj hl64
            have hg2 : W.grownBy (w'.setCell ⟨gw, j / 64, none⟩ (.int .u64 ((vs[j / 64] ^^^ 2 ^ (j % 64) : Nat) : Int))).drew (some gw) := gb_trans (gb_set Hgr.out _ _) (gb_drew _ _)
            have Hm2 := Lib.hid hm2
            have Hg2 := Lib.hid hg2
            clear hm2 hg2 c1 v hf i3 i4 i5 i6 s1 s2 s5 fv
            go_wp2
            go_roundw
            case rel =>
              refine ⟨k + 1, by omega, by go_num, ?_, ?_, Hg2.out⟩
              · rw [List.take_succ_eq_append_getElem hlt, cntL_snoc, Hvs.out, Ht.out, ← Hc.out]; rfl
              · rw [List.take_succ_eq_append_getElem hlt, setL_snoc, Hvs.out, set1, Ht.out, Hj.out]; exact Hm2.out
            case measure => simp [intOf]; omega
        · have h2 : (n : Int) ≤ l[k] := by omega
          have Ht : Hid (turns on n vs l[k] = false) := Lib.hid (by simp [turns]; omega)
          clear hw
          go_wp2_with (go_at_call 59; refine (len_any _ gm gw n vs HM.out).mono ?_; rintro e w' ⟨rfl, rfl⟩)
          go_roundw
          case rel =>
            refine ⟨k + 1, by omega, by go_num, ?_, ?_, Hgr.out⟩
            · rw [List.take_succ_eq_append_getElem hlt, cntL_snoc, Hvs.out, Ht.out, ← Hc.out]; rfl
            · rw [List.take_succ_eq_append_getElem hlt, setL_snoc, Hvs.out, set1, Ht.out]; exact HM.out
          case measure => simp [intOf]; omega
      · have h2 : l[k] < 0 := by omega
        have Ht : Hid (turns on n vs l[k] = false) := Lib.hid (by simp [turns]; omega)
        clear hw
        go_wp2_with (go_at_call 59; refine (len_any _ gm gw n vs HM.out).mono ?_; rintro e w' ⟨rfl, rfl⟩)
        go_roundw
        case rel =>
          refine ⟨k + 1, by omega, by go_num, ?_, ?_, Hgr.out⟩
          · rw [List.take_succ_eq_append_getElem hlt, cntL_snoc, Hvs.out, Ht.out, ← Hc.out]; rfl
          · rw [List.take_succ_eq_append_getElem hlt, setL_snoc, Hvs.out, set1, Ht.out]; exact HM.out
        case measure => simp [intOf]; omega
    · have hkn : k = l.length := by omega
      have hm' : MapAt wr gm gw n (setL on n ws l) := by rw [hkn, List.take_length] at hm; exact hm
      have Hm := Lib.hid hm'
      have Hc : Hid (cntL on n ws (l.take k) = cntL on n ws l) := Lib.hid (by rw [hkn, List.take_length])
      clear hm hm' hgr
      go_wp2
      go_ret
      exact ⟨ret_int (by rw [Hc.out]), Hm.out, Hgr.out⟩
end Go.Proofs.YtflkoabgkgegjaaDoor
/- The contracts of OnesCount64 and of Count. No condition beyond the word's width. -/
namespace Go.Proofs.YtflkoabgkgegjaaDoor
open Go.RowKit

theorem i64_and127 (v : Nat) (hv : v < 9223372036854775808) : bits .and .i64 (v : Int) 127 = ((v % 128 : Nat) : Int) := by
  have h1 : (BitVec.ofInt 64 (v : Int)).toNat = v := by rw [BitVec.ofInt_natCast, BitVec.toNat_ofNat]; exact Nat.mod_eq_of_lt (by omega)
  have h2 : v &&& 127 = v % 128 := Nat.and_two_pow_sub_one_eq_mod v 7
  show IntKind.i64.wrap ((BitVec.ofInt 64 (v : Int) &&& BitVec.ofInt 64 127).toNat : Int) = _
  rw [BitVec.toNat_and, h1, show (BitVec.ofInt 64 127).toNat = 127 by decide, h2, IntKind.wrap_i64]
  omega

theorem mod128 (v p : Nat) (h : v % 128 = p) : (v : Int) % 128 = (p : Int) := by omega

set_option maxHeartbeats 800000 in
theorem ones_any (x : Nat) (hx : x < 18446744073709551616) (w : World) : Calls Tryd.prog 61 #[.int .u64 (x : Int)] w fun e w' => e = .returned (.int .i64 ((pop x : Nat) : Int)) ∧ w' = w := by
  have hp := Lib.hid (pop_swar x hx)
  obtain ⟨p, hpv⟩ : ∃ p, p = (x / 2) &&& 6148914691236517205 := ⟨_, rfl⟩
  obtain ⟨q, hqv⟩ : ∃ q, q = x &&& 6148914691236517205 := ⟨_, rfl⟩
  have bp : p ≤ 6148914691236517205 := by rw [hpv]; exact Nat.and_le_right
  have bq : q ≤ 6148914691236517205 := by rw [hqv]; exact Nat.and_le_right
  have e1 : bits .and .u64 ((x : Int) / 2) 6148914691236517205 = (p : Int) := by rw [show (x : Int) / 2 = ((x / 2 : Nat) : Int) by omega, show (6148914691236517205 : Int) = ((6148914691236517205 : Nat) : Int) by rfl, u64_and_nat _ _ (by omega) (by omega), hpv]
  have e2 : bits .and .u64 (x : Int) 6148914691236517205 = (q : Int) := by rw [show (6148914691236517205 : Int) = ((6148914691236517205 : Nat) : Int) by rfl, u64_and_nat _ _ (by omega) (by omega), hqv]
  obtain ⟨a, ha⟩ : ∃ a, a = p + q := ⟨_, rfl⟩
  have w1 : IntKind.u64.wrap ((p : Int) + (q : Int)) = (a : Int) := by rw [IntKind.wrap_u64]; omega
  obtain ⟨r, hrv⟩ : ∃ r, r = (a / 4) &&& 3689348814741910323 := ⟨_, rfl⟩
  obtain ⟨s, hsv⟩ : ∃ s, s = a &&& 3689348814741910323 := ⟨_, rfl⟩
  have br : r ≤ 3689348814741910323 := by rw [hrv]; exact Nat.and_le_right
  have bs : s ≤ 3689348814741910323 := by rw [hsv]; exact Nat.and_le_right
  have e3 : bits .and .u64 ((a : Int) / 4) 3689348814741910323 = (r : Int) := by rw [show (a : Int) / 4 = ((a / 4 : Nat) : Int) by omega, show (3689348814741910323 : Int) = ((3689348814741910323 : Nat) : Int) by rfl, u64_and_nat _ _ (by omega) (by omega), hrv]
  have e4 : bits .and .u64 (a : Int) 3689348814741910323 = (s : Int) := by rw [show (3689348814741910323 : Int) = ((3689348814741910323 : Nat) : Int) by rfl, u64_and_nat _ _ (by omega) (by omega), hsv]
  obtain ⟨b, hb⟩ : ∃ b, b = r + s := ⟨_, rfl⟩
  have w2 : IntKind.u64.wrap ((r : Int) + (s : Int)) = (b : Int) := by rw [IntKind.wrap_u64]; omega
  obtain ⟨d, hd⟩ : ∃ d, d = b / 16 + b := ⟨_, rfl⟩
  have w3 : IntKind.u64.wrap ((b : Int) / 16 + (b : Int)) = (d : Int) := by rw [IntKind.wrap_u64]; omega
  obtain ⟨c, hcv⟩ : ∃ c, c = d &&& 1085102592571150095 := ⟨_, rfl⟩
  have bc : c ≤ 1085102592571150095 := by rw [hcv]; exact Nat.and_le_right
  have e5 : bits .and .u64 (d : Int) 1085102592571150095 = (c : Int) := by rw [show (1085102592571150095 : Int) = ((1085102592571150095 : Nat) : Int) by rfl, u64_and_nat _ _ (by omega) (by omega), hcv]
  obtain ⟨t, ht⟩ : ∃ t, t = c + c / 256 := ⟨_, rfl⟩
  have w4 : IntKind.u64.wrap ((c : Int) + (c : Int) / 256) = (t : Int) := by rw [IntKind.wrap_u64]; omega
  obtain ⟨u, hu⟩ : ∃ u, u = t + t / 65536 := ⟨_, rfl⟩
  have w5 : IntKind.u64.wrap ((t : Int) + (t : Int) / 65536) = (u : Int) := by rw [IntKind.wrap_u64]; omega
  obtain ⟨v, hv⟩ : ∃ v, v = u + u / 4294967296 := ⟨_, rfl⟩
  have w6 : IntKind.u64.wrap ((u : Int) + (u : Int) / 4294967296) = (v : Int) := by rw [IntKind.wrap_u64]; omega
  have bv : v < 9223372036854775808 := by omega
  have e6 := i64_and127 v bv
  have w7 : IntKind.i64.wrap (v : Int) = (v : Int) := by rw [IntKind.wrap_i64]; omega
  have w8 : wrap64 (v : Int) = (v : Int) := by unfold wrap64; omega
  have HR : Hid (v % 128 = pop x) := Lib.hid (by
    rw [← hp.out]
    show v % 128 = fold3 ((((((x / 2) &&& 6148914691236517205) + (x &&& 6148914691236517205)) / 4 &&& 3689348814741910323) + ((((x / 2) &&& 6148914691236517205) + (x &&& 6148914691236517205)) &&& 3689348814741910323)) / 16 + (((((x / 2) &&& 6148914691236517205) + (x &&& 6148914691236517205)) / 4 &&& 3689348814741910323) + ((((x / 2) &&& 6148914691236517205) + (x &&& 6148914691236517205)) &&& 3689348814741910323)) &&& 1085102592571150095)
    rw [← hpv, ← hqv, ← ha, ← hrv, ← hsv, ← hb, ← hd, ← hcv]
    show v % 128 = (c + c / 256 + (c + c / 256) / 65536 + (c + c / 256 + (c + c / 256) / 65536) / 4294967296) % 128
    rw [← ht, ← hu, ← hv])
  clear hp hpv hqv ha hrv hsv hb hd hcv ht hu hv bp bq br bs bc
  go_enter Tryd.func61, Tryd.ntmps61
  go_wp2
  go_ret
  exact ⟨ret_int (mod128 v _ HR.out), rfl⟩

theorem pop_le (x : Nat) : pop x ≤ 64 := by
  unfold pop
  exact Nat.le_trans List.countP_le_length (by simp)
theorem popL_le : ∀ ws : List Nat, popL ws ≤ 64 * ws.length
  | [] => by simp [popL]
  | x :: l => by
    have h1 := popL_le l
    have h2 := pop_le x
    simp only [popL, List.map_cons, List.sum_cons, List.length_cons] at h1 ⊢
    omega
theorem popL_snoc (l : List Nat) (x : Nat) : popL (l ++ [x]) = popL l + pop x := by simp [popL]

set_option maxRecDepth 100000 in
theorem count_any (W : World) (gm gw n : Nat) (ws : List Nat) (h : MapAt W gm gw n ws) : Calls Tryd.prog 43 #[.pointer (some ⟨gm, 0, none⟩)] W fun e w' => e = .returned (.int .i64 ((popL ws : Nat) : Int)) ∧ w' = W := by
  have H := Lib.hid h
  have c1 := cell_of_row W gm 1 _ _ _ h.1
  simp at c1
  have hlen := h.2.2.1.len
  have hn := h.2.2.2.1
  have hq : ((n : Int) + 64 - 1) / 64 = (ws.length : Int) := by omega
  have hlw : ws.length ≤ 16384 := by omega
  have hn' : (n : Int) ≤ 1048576 := by omega
  clear h hlen
  go_enter Tryd.func43, Tryd.ntmps43
  go_wp2_with (go_at_call 59; refine (len_any _ gm gw n ws H.out).mono ?_; rintro e w' ⟨rfl, rfl⟩)
  go_loopw [3, 10] (fun c i wr => ∃ (k : Nat), k ≤ ws.length ∧ i = .int .i64 k ∧ c = .int .i64 ((popL (ws.take k) : Nat) : Int) ∧ wr = w') (fun _ i _ => ws.length - (intOf i).toNat)
  case atStart => exact ⟨0, Nat.zero_le _, rfl, rfl, rfl⟩
  case round =>
    obtain ⟨k, hk, rfl, rfl, rfl⟩ := hrel
    have Hq := Lib.hid hq
    clear hq
    by_cases hlt : k < ws.length
    · have v := H.out.word k hlt
      have hxw := H.out.2.2.1.lt _ (List.getElem_mem hlt)
      have hb := popL_le (ws.take k)
      have hb1 := pop_le ws[k]
      have hb2 : (ws.take k).length ≤ 16384 := by rw [List.length_take]; omega
      have E : Hid (popL (ws.take (k + 1)) = popL (ws.take k) + pop ws[k]) := Lib.hid (by rw [List.take_succ_eq_append_getElem hlt, popL_snoc])
      generalize popL (ws.take k) = c at *
      have i1 : (k : Int) < (ws.length : Int) := by omega
      have hcb : c ≤ 1048576 := by omega
      have i2 : (k : Int) < ((n : Int) + 64 - 1) / 64 := by have := Hq.out; omega
      go_wp2_with (go_at_call 61; refine (ones_any ws[k] hxw _).mono ?_; rintro e w2 ⟨rfl, rfl⟩)
      go_roundw
      case rel => exact ⟨k + 1, by omega, by go_num, by rw [E.out]; push_cast; rfl, by first | rfl | trivial⟩
      case measure => simp [intOf]; omega
    · have E : Hid (popL (ws.take k) = popL ws) := Lib.hid (by rw [List.take_of_length_le (by omega)])
      have i2 : ((n : Int) + 64 - 1) / 64 ≤ (k : Int) := by have := Hq.out; omega
      go_wp2
      go_ret
      exact ⟨ret_int (by rw [E.out]), rfl⟩
end Go.Proofs.YtflkoabgkgegjaaDoor
