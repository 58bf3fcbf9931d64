/- The walk of UtcbAgain. Condition: the words are read. -/
import Derived.Test.YtgacfgofpanchaaProg
import Derived.Test.YtgacfgofpanchaaU3
import Derived.WalkKit
import Derived.WalkLawsBesides
import Derived.WalkSpells
import Derived.Deep.QuietTactic
import Derived.BigQuiet
import Derived.Deep.RegionHeld3
import Derived.Deep.RegionLaw
import Derived.Outline
import Derived.Lib.LazyBuf
import Derived.Deep.WholeRow
namespace Go.Proofs.Ytgacfgofpanchaa
open Go.RowKit

set_option maxRecDepth 100000 in
theorem again_long (A : Option Addr) (n cap spot : Nat) (hn : 32 < n) (w : World) :
    Calls Try.prog 7 #[.slice A n cap, .int .u8 (spot : Int)] w fun e w' => e = .returned (.bool true) ∧ Below w.heap.size w w' := by
  have i8 : (32 : Int) < (n : Int) := by omega
  clear hn
  go_enter Try.func7, Try.ntmps7
  go_wp2_with fail
  refine (alive_any _).mono ?_
  rintro e w1 ⟨rfl, hb1⟩
  have H1 := Lib.hid hb1
  clear hb1
  go_wp2
  go_ret
  exact ⟨rfl, H1.out⟩
set_option maxRecDepth 100000 in
set_option maxHeartbeats 3200000 in
theorem again_short (l : List Nat) (A : Option Addr) (n cap spot : Nat) (hn : l.length = n) (h32 : n ≤ 32) (hs : spot < 256) (hl : ∀ x ∈ l, x < 18446744073709551616) (w : World) (hA : SlR w A (u64s l)) :
    Calls Try.prog 7 #[.slice A n cap, .int .u8 (spot : Int)] w fun e w' => e = .returned (.bool true) ∧ Below w.heap.size w w' := by
  obtain ⟨a, ha⟩ : ∃ a, a = 256 * spot := ⟨_, rfl⟩
  have HA : Hid (a + 256 ≤ 65536) := Lib.hid (by omega)
  have H8 : Hid (a % 8 = 0) := Lib.hid (by omega)
  have s1 : (spot : Int).tmod 256 = (spot : Int) := by rw [Int.tmod_eq_emod_of_nonneg (by omega)]; omega
  have s2 : 256 * (spot : Int) = (a : Int) := by omega
  have i0 : (0 : Int) ≤ (spot : Int) := by omega
  have i1 : (spot : Int) < 256 := by omega
  have s3 : (spot : Int) % 256 = (spot : Int) := by omega
  have i8 : (n : Int) ≤ 32 := by omega
  obtain ⟨f1, hf1⟩ : ∃ f1, f1 = storeF (fun _ => 0) a l (n * 8) := ⟨_, rfl⟩
  have Flt : Hid (∀ i, f1 i < 256) := Lib.hid (fun i => by rw [hf1]; exact storeF_lt _ _ _ _ (fun _ => by omega) i)
  obtain ⟨m, hm⟩ : ∃ m, getM (wd f1 a) = m := ⟨_, rfl⟩
  obtain ⟨v, hv⟩ : ∃ v, winX (wd f1 a 2) = v := ⟨_, rfl⟩
  have Mok : Hid (putOk m = true) := Lib.hid (by rw [← hm]; exact putOk_getM _)
  have Mr : Hid (MsgR m) := Lib.hid (by rw [← hm]; exact getM_lt _ (fun i => wd_lt _ _ _ Flt.out))
  have Vok : Hid (winOk v = true) := Lib.hid (by rw [← hv]; exact winX_may _)
  obtain ⟨n1, hn1⟩ : ∃ n1, m.words.length = n1 := ⟨_, rfl⟩
  obtain ⟨k1, hk1⟩ : ∃ k1, m.items.length = k1 := ⟨_, rfl⟩
  have b1 : (n1 : Int) ≤ 8 := by have := ((putOk_iff m).1 Mok.out).1; omega
  have b2 : (k1 : Int) ≤ 2 := by have := ((putOk_iff m).1 Mok.out).2.1; omega
  obtain ⟨f2, hf2⟩ : ∃ f2, f2 = putU f1 a m := ⟨_, rfl⟩
  obtain ⟨f3, hf3⟩ : ∃ f3, f3 = openF f2 a v := ⟨_, rfl⟩
  have F2 : Hid (getM (wd f2 a) = m) := Lib.hid (by rw [hf2, putU_ok _ _ Mok.out]; exact getM_putF _ _ _ Mr.out Mok.out)
  have W2 : Hid (winX (wd f2 a 2) = v) := Lib.hid (by rw [hf2, putU_ok _ _ Mok.out, two_putF]; exact hv)
  have F3 : Hid (getM (wd f3 a) = m) := Lib.hid (by rw [hf3, getM_openF _ _ _ Vok.out]; exact F2.out)
  have W3 : Hid (winX (wd f3 a 2) = v) := Lib.hid (by rw [hf3]; exact win_openF _ _ _ Vok.out)
  have E1 := Lib.hid hf1
  have E2 := Lib.hid hf2
  have E3 := Lib.hid hf3
  have HM := Lib.hid hm
  have HV := Lib.hid hv
  have HN1 := Lib.hid hn1
  have HK1 := Lib.hid hk1
  have HN := Lib.hid hn
  have HL := Lib.hid hl
  have HP := Lib.hid (Pre.start w [(A, u64s l)] (fun s hs => by rw [List.mem_singleton.1 hs]; exact hA))
  clear ha hs hf1 hm hv hn1 hk1 hf2 hf3 hn hl hA h32
  go_enter Try.func7, Try.ntmps7
  go_wp2_with fail
  refine (alive_any _).mono ?_
  rintro e w1 ⟨rfl, hb1⟩
  have H1 := Lib.hid (HP.out.below hb1)
  clear hb1 HP
  go_wp2_with fail
  refine (new_c H1.out).mono ?_
  rintro e w2 ⟨ga, gb, rfl, h2⟩
  have H2 := Lib.hid h2
  clear h2 H1
  go_wp2_with fail
  refine (at_c H2.out a a rfl HA.out H8.out).mono ?_
  rintro e w3 ⟨bp, rfl, h3⟩
  have H3 := Lib.hid h3
  clear h3 H2
  go_wp2_with fail
  refine (store_c H3.out a a rfl l n HN.out (by have := HA.out; omega) H8.out A cap (H3.out.sls _ List.mem_cons_self) HL.out).mono ?_
  rintro e w4 ⟨rfl, h4⟩
  rw [← E1.out] at h4
  have H4 := Lib.hid (h4.sub (S' := []) (fun _ h => h) (fun _ h => absurd h List.not_mem_nil))
  clear h4 H3
  go_wp2_with fail
  refine (get_c H4.out (List.mem_singleton.2 rfl) HA.out H8.out m HM.out m.label rfl n1 k1 HN1.out HK1.out).mono ?_
  rintro e w5 ⟨A1, B1, c1, d1, rfl, h5⟩
  have H5 := Lib.hid h5
  clear h5 H4
  go_wp2_with fail
  refine (window_c H5.out (List.mem_singleton.2 rfl) HA.out H8.out v HV.out).mono ?_
  rintro e w6 ⟨rfl, h6⟩
  have h7 := (h6.alloc #[.int .u64 (m.label : Int), .slice A1 n1 c1, .slice B1 k1 d1] 43).alloc #[.int .i64 v.base, .int .i64 v.order] 26
  rw [World.size_alloc] at h7
  obtain ⟨g8, hg8⟩ : ∃ g8, g8 = w6.heap.size := ⟨_, rfl⟩
  obtain ⟨g9, hg9⟩ : ∃ g9, g9 = w6.heap.size + 1 := ⟨_, rfl⟩
  rw [← hg9, ← hg8] at h7
  obtain ⟨R, hR⟩ : ∃ R : List Rw, R = [(g9, #[.int .i64 v.base, .int .i64 v.order], 26), (g8, #[.int .u64 (m.label : Int), .slice A1 n1 c1, .slice B1 k1 d1], 43), (bp, blkRow ga a, 79)] := ⟨_, rfl⟩
  rw [← hR] at h7
  have Rp : Hid ((bp, blkRow ga a, 79) ∈ R) := Lib.hid (by rw [hR]; simp)
  have R8 : Hid ((g8, #[.int .u64 (m.label : Int), .slice A1 n1 c1, .slice B1 k1 d1], 43) ∈ R) := Lib.hid (by rw [hR]; simp)
  have R9 : Hid ((g9, #[.int .i64 v.base, .int .i64 v.order], 26) ∈ R) := Lib.hid (by rw [hR]; simp)
  have H7 := Lib.hid h7
  clear h6 h7 H5 hR
  go_wp2_with fail
  refine (may_c H7.out v.base v.order true Vok.out).mono ?_
  rintro e w7 ⟨rfl, h8⟩
  have H8s := Lib.hid h8
  have q0 := h8.cell R8.out 0
  have q1 := h8.cell R8.out 1
  have q2 := h8.cell R8.out 2
  have KC : Hid (∀ (w' : World) (f : Nat → Nat) (S : List Sls), Scn w w' ga gb f R S → w'.cell? ⟨g8, 0, none⟩ = some (.int .u64 (m.label : Int)) ∧ w'.cell? ⟨g8, 1, none⟩ = some (.slice A1 n1 c1) ∧ w'.cell? ⟨g8, 2, none⟩ = some (.slice B1 k1 d1) ∧ w'.cell? ⟨g9, 0, none⟩ = some (.int .i64 v.base) ∧ w'.cell? ⟨g9, 1, none⟩ = some (.int .i64 v.order)) := Lib.hid (fun w' f S h => ⟨h.cell R8.out 0, h.cell R8.out 1, h.cell R8.out 2, h.cell R9.out 0, h.cell R9.out 1⟩)
  have rn := run_neq_wnd v
  have re := run_eq_wnd v
  clear h8 H7 q0 q1 q2
  go_wp2_with fail
  rw [← hg9, ← hg8]
  clear hg9 hg8
  have hS := H8s.out
  have hSd := H8s.out.drew
  go_region_held3 (fun w' => w'.cell? ⟨g8, 0, none⟩ = some (.int .u64 (m.label : Int)) ∧ w'.cell? ⟨g8, 1, none⟩ = some (.slice A1 n1 c1) ∧ w'.cell? ⟨g8, 2, none⟩ = some (.slice B1 k1 d1) ∧ w'.cell? ⟨g9, 0, none⟩ = some (.int .i64 v.base) ∧ w'.cell? ⟨g9, 1, none⟩ = some (.int .i64 v.order)) (exact KC.out _ _ _ (by assumption)) (first | (go_at_call 17; (with_reducible refine (put_c (by assumption) Rp.out HA.out H8.out m Mr.out 0 (putE_ok Mok.out) m.label rfl A1 B1 n1 c1 k1 d1 HN1.out HK1.out (by omega) (Scn.s0 (by assumption)) (Scn.s1 (by assumption))).mono ?_); rintro e w7 ⟨rfl, h7⟩; rw [← E2.out] at h7) | (go_at_call 19; (with_reducible refine (get_c (by assumption) Rp.out HA.out H8.out m F2.out m.label rfl n1 k1 HN1.out HK1.out).mono ?_); rintro e w8 ⟨A2, B2, c2, d2, rfl, h8⟩) | (go_at_call 18; (with_reducible refine (same_c (by assumption) m m true (sameM_self m) m.label m.label rfl rfl _ _ _ _ n1 n1 k1 k1 _ _ _ _ HN1.out HN1.out HK1.out HK1.out (by omega) (by omega) (by omega) (by omega) (Scn.s0 (by assumption)) (Scn.s2 (by assumption)) (Scn.s1 (by assumption)) (Scn.s3 (by assumption))).mono ?_); rintro e w9 ⟨rfl, h9⟩) | (go_at_call 21; (with_reducible refine (window_c (by assumption) Rp.out HA.out H8.out v W2.out).mono ?_); rintro e w10 ⟨rfl, h10⟩))
  all_goals
    have H10 := Lib.hid h10.pop2
    clear hS hSd h7 h8 h9 h10 H8s
    go_wp2_with fail
    have hS := H10.out
    have hSd := H10.out.drew
    go_region_held3 (fun w' => w'.cell? ⟨g8, 0, none⟩ = some (.int .u64 (m.label : Int)) ∧ w'.cell? ⟨g8, 1, none⟩ = some (.slice A1 n1 c1) ∧ w'.cell? ⟨g8, 2, none⟩ = some (.slice B1 k1 d1) ∧ w'.cell? ⟨g9, 0, none⟩ = some (.int .i64 v.base) ∧ w'.cell? ⟨g9, 1, none⟩ = some (.int .i64 v.order)) (exact KC.out _ _ _ (by assumption)) (first | (go_at_call 20; (with_reducible refine (open_c (by assumption) Rp.out HA.out H8.out v.base v.order Vok.out).mono ?_); rintro e w11 ⟨rfl, h11⟩; rw [show openF f2 a ⟨v.base, v.order⟩ = f3 from E3.out.symm] at h11) | (go_at_call 19; (with_reducible refine (get_c (by assumption) Rp.out HA.out H8.out m F3.out m.label rfl n1 k1 HN1.out HK1.out).mono ?_); rintro e w8 ⟨A2, B2, c2, d2, rfl, h8⟩) | (go_at_call 18; (with_reducible refine (same_c (by assumption) m m true (sameM_self m) m.label m.label rfl rfl _ _ _ _ n1 n1 k1 k1 _ _ _ _ HN1.out HN1.out HK1.out HK1.out (by omega) (by omega) (by omega) (by omega) (Scn.s0 (by assumption)) (Scn.s2 (by assumption)) (Scn.s1 (by assumption)) (Scn.s3 (by assumption))).mono ?_); rintro e w9 ⟨rfl, h9⟩) | (go_at_call 21; (with_reducible refine (window_c (by assumption) Rp.out HA.out H8.out v W3.out).mono ?_); rintro e w10 ⟨rfl, h10⟩))
    all_goals
      go_wp2
      go_ret
      exact ⟨rfl, h9.way⟩
theorem again_any (l : List Nat) (A : Option Addr) (n cap spot : Nat) (hn : l.length = n) (hs : spot < 256) (hl : ∀ x ∈ l, x < 18446744073709551616) (w : World) (hA : SlR w A (u64s l)) :
    Calls Try.prog 7 #[.slice A n cap, .int .u8 (spot : Int)] w fun e w' => e = .returned (.bool true) ∧ Below w.heap.size w w' := by
  by_cases h : n ≤ 32
  · exact again_short l A n cap spot hn h hs hl w hA
  · exact again_long A n cap spot (by omega) w
end Go.Proofs.Ytgacfgofpanchaa
