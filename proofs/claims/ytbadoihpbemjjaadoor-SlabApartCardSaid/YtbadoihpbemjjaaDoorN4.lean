/- The contracts of OnesCount64 and of Count. No condition beyond the word's width. -/
import Derived.Test.YtbadoihpbemjjaaDoorN3
namespace Go.Proofs.YtbadoihpbemjjaaDoor
open Go.RowKit

theorem i64_and127 (v : Nat) (hv : v < 9223372036854775808) : bits .and .i64 (v : Int) 127 = ((v % 128 : Nat) : Int) := by
  have h1 : (BitVec.ofInt 64 (v : Int)).toNat = v := by rw [BitVec.ofInt_natCast, BitVec.toNat_ofNat]; exact Nat.mod_eq_of_lt (by omega)
  have h2 : v &&& 127 = v % 128 := Nat.and_two_pow_sub_one_eq_mod v 7
  show IntKind.i64.wrap ((BitVec.ofInt 64 (v : Int) &&& BitVec.ofInt 64 127).toNat : Int) = _
  rw [BitVec.toNat_and, h1, show (BitVec.ofInt 64 127).toNat = 127 by decide, h2, IntKind.wrap_i64]
  omega

theorem mod128 (v p : Nat) (h : v % 128 = p) : (v : Int) % 128 = (p : Int) := by omega

set_option maxHeartbeats 800000 in
theorem ones_any (x : Nat) (hx : x < 18446744073709551616) (w : World) : Calls Tryd.prog 52 #[.int .u64 (x : Int)] w fun e w' => e = .returned (.int .i64 ((pop x : Nat) : Int)) ∧ w' = w := by
  have hp := Lib.hid (pop_swar x hx)
  obtain ⟨p, hpv⟩ : ∃ p, p = (x / 2) &&& 6148914691236517205 := ⟨_, rfl⟩
  obtain ⟨q, hqv⟩ : ∃ q, q = x &&& 6148914691236517205 := ⟨_, rfl⟩
  have bp : p ≤ 6148914691236517205 := by rw [hpv]; exact Nat.and_le_right
  have bq : q ≤ 6148914691236517205 := by rw [hqv]; exact Nat.and_le_right
  have e1 : bits .and .u64 ((x : Int) / 2) 6148914691236517205 = (p : Int) := by rw [show (x : Int) / 2 = ((x / 2 : Nat) : Int) by omega, show (6148914691236517205 : Int) = ((6148914691236517205 : Nat) : Int) by rfl, u64_and_nat _ _ (by omega) (by omega), hpv]
  have e2 : bits .and .u64 (x : Int) 6148914691236517205 = (q : Int) := by rw [show (6148914691236517205 : Int) = ((6148914691236517205 : Nat) : Int) by rfl, u64_and_nat _ _ (by omega) (by omega), hqv]
  obtain ⟨a, ha⟩ : ∃ a, a = p + q := ⟨_, rfl⟩
  have w1 : IntKind.u64.wrap ((p : Int) + (q : Int)) = (a : Int) := by rw [IntKind.wrap_u64]; omega
  obtain ⟨r, hrv⟩ : ∃ r, r = (a / 4) &&& 3689348814741910323 := ⟨_, rfl⟩
  obtain ⟨s, hsv⟩ : ∃ s, s = a &&& 3689348814741910323 := ⟨_, rfl⟩
  have br : r ≤ 3689348814741910323 := by rw [hrv]; exact Nat.and_le_right
  have bs : s ≤ 3689348814741910323 := by rw [hsv]; exact Nat.and_le_right
  have e3 : bits .and .u64 ((a : Int) / 4) 3689348814741910323 = (r : Int) := by rw [show (a : Int) / 4 = ((a / 4 : Nat) : Int) by omega, show (3689348814741910323 : Int) = ((3689348814741910323 : Nat) : Int) by rfl, u64_and_nat _ _ (by omega) (by omega), hrv]
  have e4 : bits .and .u64 (a : Int) 3689348814741910323 = (s : Int) := by rw [show (3689348814741910323 : Int) = ((3689348814741910323 : Nat) : Int) by rfl, u64_and_nat _ _ (by omega) (by omega), hsv]
  obtain ⟨b, hb⟩ : ∃ b, b = r + s := ⟨_, rfl⟩
  have w2 : IntKind.u64.wrap ((r : Int) + (s : Int)) = (b : Int) := by rw [IntKind.wrap_u64]; omega
  obtain ⟨d, hd⟩ : ∃ d, d = b / 16 + b := ⟨_, rfl⟩
  have w3 : IntKind.u64.wrap ((b : Int) / 16 + (b : Int)) = (d : Int) := by rw [IntKind.wrap_u64]; omega
  obtain ⟨c, hcv⟩ : ∃ c, c = d &&& 1085102592571150095 := ⟨_, rfl⟩
  have bc : c ≤ 1085102592571150095 := by rw [hcv]; exact Nat.and_le_right
  have e5 : bits .and .u64 (d : Int) 1085102592571150095 = (c : Int) := by rw [show (1085102592571150095 : Int) = ((1085102592571150095 : Nat) : Int) by rfl, u64_and_nat _ _ (by omega) (by omega), hcv]
  obtain ⟨t, ht⟩ : ∃ t, t = c + c / 256 := ⟨_, rfl⟩
  have w4 : IntKind.u64.wrap ((c : Int) + (c : Int) / 256) = (t : Int) := by rw [IntKind.wrap_u64]; omega
  obtain ⟨u, hu⟩ : ∃ u, u = t + t / 65536 := ⟨_, rfl⟩
  have w5 : IntKind.u64.wrap ((t : Int) + (t : Int) / 65536) = (u : Int) := by rw [IntKind.wrap_u64]; omega
  obtain ⟨v, hv⟩ : ∃ v, v = u + u / 4294967296 := ⟨_, rfl⟩
  have w6 : IntKind.u64.wrap ((u : Int) + (u : Int) / 4294967296) = (v : Int) := by rw [IntKind.wrap_u64]; omega
  have bv : v < 9223372036854775808 := by omega
  have e6 := i64_and127 v bv
  have w7 : IntKind.i64.wrap (v : Int) = (v : Int) := by rw [IntKind.wrap_i64]; omega
  have w8 : wrap64 (v : Int) = (v : Int) := by unfold wrap64; omega
  have HR : Hid (v % 128 = pop x) := Lib.hid (by
    rw [← hp.out]
    show v % 128 = fold3 ((((((x / 2) &&& 6148914691236517205) + (x &&& 6148914691236517205)) / 4 &&& 3689348814741910323) + ((((x / 2) &&& 6148914691236517205) + (x &&& 6148914691236517205)) &&& 3689348814741910323)) / 16 + (((((x / 2) &&& 6148914691236517205) + (x &&& 6148914691236517205)) / 4 &&& 3689348814741910323) + ((((x / 2) &&& 6148914691236517205) + (x &&& 6148914691236517205)) &&& 3689348814741910323)) &&& 1085102592571150095)
    rw [← hpv, ← hqv, ← ha, ← hrv, ← hsv, ← hb, ← hd, ← hcv]
    show v % 128 = (c + c / 256 + (c + c / 256) / 65536 + (c + c / 256 + (c + c / 256) / 65536) / 4294967296) % 128
    rw [← ht, ← hu, ← hv])
  clear hp hpv hqv ha hrv hsv hb hd hcv ht hu hv bp bq br bs bc
  go_enter Tryd.func52, Tryd.ntmps52
  go_wp2
  go_ret
  exact ⟨ret_int (mod128 v _ HR.out), rfl⟩

theorem pop_le (x : Nat) : pop x ≤ 64 := by
  unfold pop
  exact Nat.le_trans List.countP_le_length (by simp)
theorem popL_le : ∀ ws : List Nat, popL ws ≤ 64 * ws.length
  | [] => by simp [popL]
  | x :: l => by
    have h1 := popL_le l
    have h2 := pop_le x
    simp only [popL, List.map_cons, List.sum_cons, List.length_cons] at h1 ⊢
    omega
theorem popL_snoc (l : List Nat) (x : Nat) : popL (l ++ [x]) = popL l + pop x := by simp [popL]

set_option maxRecDepth 100000 in
theorem count_any (W : World) (gm gw n : Nat) (ws : List Nat) (h : MapAt W gm gw n ws) : Calls Tryd.prog 40 #[.pointer (some ⟨gm, 0, none⟩)] W fun e w' => e = .returned (.int .i64 ((popL ws : Nat) : Int)) ∧ w' = W := by
  have H := Lib.hid h
  have c1 := cell_of_row W gm 1 _ _ _ h.1
  simp at c1
  have hlen := h.2.2.1.len
  have hn := h.2.2.2.1
  have hq : ((n : Int) + 64 - 1) / 64 = (ws.length : Int) := by omega
  have hlw : ws.length ≤ 16384 := by omega
  have hn' : (n : Int) ≤ 1048576 := by omega
  clear h hlen
  go_enter Tryd.func40, Tryd.ntmps40
  go_wp2_with (go_at_call 55; refine (len_any _ gm gw n ws H.out).mono ?_; rintro e w' ⟨rfl, rfl⟩)
  go_loopw [3, 10] (fun c i wr => ∃ (k : Nat), k ≤ ws.length ∧ i = .int .i64 k ∧ c = .int .i64 ((popL (ws.take k) : Nat) : Int) ∧ wr = w') (fun _ i _ => ws.length - (intOf i).toNat)
  case atStart => exact ⟨0, Nat.zero_le _, rfl, rfl, rfl⟩
  case round =>
    obtain ⟨k, hk, rfl, rfl, rfl⟩ := hrel
    have Hq := Lib.hid hq
    clear hq
    by_cases hlt : k < ws.length
    · have v := H.out.word k hlt
      have hxw := H.out.2.2.1.lt _ (List.getElem_mem hlt)
      have hb := popL_le (ws.take k)
      have hb1 := pop_le ws[k]
      have hb2 : (ws.take k).length ≤ 16384 := by rw [List.length_take]; omega
      have E : Hid (popL (ws.take (k + 1)) = popL (ws.take k) + pop ws[k]) := Lib.hid (by rw [List.take_succ_eq_append_getElem hlt, popL_snoc])
      generalize popL (ws.take k) = c at *
      have i1 : (k : Int) < (ws.length : Int) := by omega
      have hcb : c ≤ 1048576 := by omega
      have i2 : (k : Int) < ((n : Int) + 64 - 1) / 64 := by have := Hq.out; omega
      go_wp2_with (go_at_call 52; refine (ones_any ws[k] hxw _).mono ?_; rintro e w2 ⟨rfl, rfl⟩)
      go_roundw
      case rel => exact ⟨k + 1, by omega, by go_num, by rw [E.out]; push_cast; rfl, by first | rfl | trivial⟩
      case measure => simp [intOf]; omega
    · have E : Hid (popL (ws.take k) = popL ws) := Lib.hid (by rw [List.take_of_length_le (by omega)])
      have i2 : ((n : Int) + 64 - 1) / 64 ≤ (k : Int) := by have := Hq.out; omega
      go_wp2
      go_ret
      exact ⟨ret_int (by rw [E.out]), rfl⟩
end Go.Proofs.YtbadoihpbemjjaaDoor
