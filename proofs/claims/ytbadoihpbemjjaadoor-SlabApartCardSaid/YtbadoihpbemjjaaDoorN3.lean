/- The contract of Set. Condition: the bits' numbers are read, and lie elsewhere than the map's words. -/
import Derived.Test.YtbadoihpbemjjaaDoorN2
namespace Go.Proofs.YtbadoihpbemjjaaDoor
open Go.RowKit

theorem cntL_le (on : Bool) (n : Nat) : ∀ (l : List Int) (ws : List Nat), cntL on n ws l ≤ l.length
  | [], _ => Nat.le_refl _
  | i :: l, ws => by
    have := cntL_le on n l (set1 on n ws i)
    have h1 : (turns on n ws i).toNat ≤ 1 := by cases turns on n ws i <;> simp
    simp only [cntL, List.length_cons]
    omega

theorem flip_val (x b : Nat) (hb : b < 64) (hx : x < 18446744073709551616) : bits .xor .u64 (x : Int) (IntKind.u64.wrap (2 ^ b)) = ((x ^^^ 2 ^ b : Nat) : Int) := by
  have h1 : (2 : Nat) ^ b < 2 ^ 64 := Nat.pow_lt_pow_right (by omega) hb
  have h2 : (2 : Nat) ^ 64 = 18446744073709551616 := by decide
  have e0 : (2 : Int) ^ b = ((2 ^ b : Nat) : Int) := by push_cast; rfl
  rw [e0]
  generalize 2 ^ b = P at *
  have e : IntKind.u64.wrap (P : Int) = (P : Int) := by rw [IntKind.wrap_u64]; omega
  rw [e, u64_xor_nat _ _ hx (by omega)]

set_option maxRecDepth 100000 in
set_option maxHeartbeats 1600000 in
theorem set_any (on : Bool) (l : List Int) (A : Option Addr) (cap : Nat) (W : World) (gm gw n : Nat) (ws : List Nat) (h : MapAt W gm gw n ws) (hA : SlR W A (i64s l)) (hne : l ≠ [] → ∀ a, A = some a → a.block ≠ gw) (hl : l.length ≤ 9223372036854775807) :
    Calls Tryd.prog 33 #[.pointer (some ⟨gm, 0, none⟩), .bool on, .slice A l.length cap] W
      fun e w' => e = .returned (.int .i64 ((cntL on n ws l : Nat) : Int)) ∧ MapAt w' gm gw n (setL on n ws l) ∧ W.grownBy w' (some gw) := by
  have H0 := Lib.hid h
  have HA := Lib.hid hA
  have Hne := Lib.hid hne
  clear h hA hne
  go_enter Tryd.func33, Tryd.ntmps33
  go_wp2_with fail
  go_loopw [7, 12] (fun c i wr => ∃ (k : Nat), k ≤ l.length ∧ i = .int .i64 k ∧ c = .int .i64 ((cntL on n ws (l.take k) : Nat) : Int) ∧ MapAt wr gm gw n (setL on n ws (l.take k)) ∧ W.grownBy wr (some gw)) (fun _ i _ => l.length - (intOf i).toNat)
  case atStart => exact ⟨0, Nat.zero_le _, rfl, rfl, H0.out, World.grownBy.refl _ _⟩
  case round =>
    obtain ⟨k, hk, rfl, rfl, hm, hgr⟩ := hrel
    have Hgr := Lib.hid hgr
    by_cases hlt : k < l.length
    · obtain ⟨b, off, rfl, hx⟩ := ((HA.out.grown hgr (Hne.out (by rintro rfl; simp at hlt))).int hlt)
      have hcl := cntL_le on n (l.take k) ws
      rw [List.length_take] at hcl
      obtain ⟨vs, hvs⟩ : ∃ vs, setL on n ws (l.take k) = vs := ⟨_, rfl⟩
      obtain ⟨c, hc⟩ : ∃ c, cntL on n ws (l.take k) = c := ⟨_, rfl⟩
      have Hvs := Lib.hid hvs
      have Hc := Lib.hid hc
      rw [hvs] at hm
      have HM := Lib.hid hm
      have hcb : c ≤ k := by rw [← hc]; omega
      rw [hc]
      have hw := hm.2.2.1
      clear hm hgr hvs hc hcl
      by_cases h0 : 0 ≤ l[k]
      · by_cases h1 : l[k] < (n : Int)
        · obtain ⟨j, hj0⟩ := Int.eq_ofNat_of_zero_le h0
          have hj : j < n := by omega
          have hl64 := in_len hw hj
          rw [hj0] at hx h0 h1
          by_cases hb : bitW vs j = on
          · have ht : (bitW vs j == on) = true := by simp [hb]
            have Ht : Hid (turns on n vs l[k] = false) := Lib.hid (by rw [hj0]; simp [turns, hb])
            clear hb hw
            go_wp2_with (first | (go_at_call 55; refine (len_any _ gm gw n vs HM.out).mono ?_; rintro e w' ⟨rfl, rfl⟩) | (go_at_call 56; refine (get_yes _ gm gw n vs j hj HM.out).mono ?_; rintro e w' ⟨rfl, rfl⟩))
            go_roundw
            case rel =>
              refine ⟨k + 1, by omega, by go_num, ?_, ?_, Hgr.out⟩
              · rw [List.take_succ_eq_append_getElem hlt, cntL_snoc, Hvs.out, Ht.out, ← Hc.out]; rfl
              · rw [List.take_succ_eq_append_getElem hlt, setL_snoc, Hvs.out, set1, Ht.out]; exact HM.out
            case measure => simp [intOf]; omega
          · have ht : (bitW vs j == on) = false := by simp [hb]
            have Ht : Hid (turns on n vs l[k] = true) := Lib.hid (by rw [hj0]; simp only [turns, Bool.and_eq_true, decide_eq_true_eq, Int.toNat_natCast]; exact ⟨⟨h0, h1⟩, by simp [bne, ht]⟩)
            have Hj := Lib.hid hj0
            have hxw := hw.lt _ (List.getElem_mem hl64)
            clear hb hw hj0
            go_wp2_with (first | (go_at_call 55; refine (len_any _ gm gw n vs HM.out).mono ?_; rintro e w' ⟨rfl, rfl⟩) | (go_at_call 56; refine (get_yes _ gm gw n vs j hj HM.out).mono ?_; rintro e w' ⟨rfl, rfl⟩))
            have c1 := cell_of_row w' gm 1 _ _ _ HM.out.1
            simp at c1
            have v := HM.out.word _ hl64
            have hf : w'.frozen? ⟨gw, j / 64, none⟩ = false := frozen_of_row w' gw _ _ _ HM.out.2.1
            have i4 : (j : Int) < 1048576 := by have := HM.out.2.2.2.1; omega
            have i3 : (j : Int) / 64 < (vs.length : Int) := by omega
            have i5 : ((j : Int) / 64).toNat = j / 64 := by omega
            have s1 : IntKind.i64.wrap ((j : Int) / 64) = (j : Int) / 64 := by rw [IntKind.wrap_i64]; omega
            have s2 : Int.tmod (j : Int) 64 = ((j % 64 : Nat) : Int) := by rw [Int.tmod_eq_emod_of_nonneg (by omega)]; simp
            have s3 : IntKind.i64.wrap ((j % 64 : Nat) : Int) = ((j % 64 : Nat) : Int) := by rw [IntKind.wrap_i64]; omega
            have i6 : (0 : Int) ≤ (j : Int) / 64 := by omega
            have s5 : ((j : Int) % 64).toNat = j % 64 := by omega
            have fv := flip_val vs[j / 64] (j % 64) (by omega) hxw
            clear s3
            go_region_law (fail)
            have hm2 : MapAt (w'.setCell ⟨gw, j / 64, none⟩ (.int .u64 ((vs[j / 64] ^^^ 2 ^ (j % 64) : Nat) : Int))).drew gm gw n (flipW vs j) := HM.out.flip hj hl64
            have hg2 : W.grownBy (w'.setCell ⟨gw, j / 64, none⟩ (.int .u64 ((vs[j / 64] ^^^ 2 ^ (j % 64) : Nat) : Int))).drew (some gw) := gb_trans (gb_set Hgr.out _ _) (gb_drew _ _)
            have Hm2 := Lib.hid hm2
            have Hg2 := Lib.hid hg2
            clear hm2 hg2 c1 v hf i3 i4 i5 i6 s1 s2 s5 fv
            go_wp2
            go_roundw
            case rel =>
              refine ⟨k + 1, by omega, by go_num, ?_, ?_, Hg2.out⟩
              · rw [List.take_succ_eq_append_getElem hlt, cntL_snoc, Hvs.out, Ht.out, ← Hc.out]; rfl
              · rw [List.take_succ_eq_append_getElem hlt, setL_snoc, Hvs.out, set1, Ht.out, Hj.out]; exact Hm2.out
            case measure => simp [intOf]; omega
        · have h2 : (n : Int) ≤ l[k] := by omega
          have Ht : Hid (turns on n vs l[k] = false) := Lib.hid (by simp [turns]; omega)
          clear hw
          go_wp2_with (go_at_call 55; refine (len_any _ gm gw n vs HM.out).mono ?_; rintro e w' ⟨rfl, rfl⟩)
          go_roundw
          case rel =>
            refine ⟨k + 1, by omega, by go_num, ?_, ?_, Hgr.out⟩
            · rw [List.take_succ_eq_append_getElem hlt, cntL_snoc, Hvs.out, Ht.out, ← Hc.out]; rfl
            · rw [List.take_succ_eq_append_getElem hlt, setL_snoc, Hvs.out, set1, Ht.out]; exact HM.out
          case measure => simp [intOf]; omega
      · have h2 : l[k] < 0 := by omega
        have Ht : Hid (turns on n vs l[k] = false) := Lib.hid (by simp [turns]; omega)
        clear hw
        go_wp2_with (go_at_call 55; refine (len_any _ gm gw n vs HM.out).mono ?_; rintro e w' ⟨rfl, rfl⟩)
        go_roundw
        case rel =>
          refine ⟨k + 1, by omega, by go_num, ?_, ?_, Hgr.out⟩
          · rw [List.take_succ_eq_append_getElem hlt, cntL_snoc, Hvs.out, Ht.out, ← Hc.out]; rfl
          · rw [List.take_succ_eq_append_getElem hlt, setL_snoc, Hvs.out, set1, Ht.out]; exact HM.out
        case measure => simp [intOf]; omega
    · have hkn : k = l.length := by omega
      have hm' : MapAt wr gm gw n (setL on n ws l) := by rw [hkn, List.take_length] at hm; exact hm
      have Hm := Lib.hid hm'
      have Hc : Hid (cntL on n ws (l.take k) = cntL on n ws l) := Lib.hid (by rw [hkn, List.take_length])
      clear hm hm' hgr
      go_wp2
      go_ret
      exact ⟨ret_int (by rw [Hc.out]), Hm.out, Hgr.out⟩
end Go.Proofs.YtbadoihpbemjjaaDoor
