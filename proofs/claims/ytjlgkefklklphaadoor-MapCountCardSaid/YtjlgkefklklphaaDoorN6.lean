/- The contract of Run. Condition: the table of TrailingZeros64 holds what its text says. -/
import Derived.Test.YtjlgkefklklphaaDoorN5
namespace Go.Proofs.YtjlgkefklklphaaDoor
open Go.RowKit

theorem run_any (on : Bool) (W : World) (gm gw n : Nat) (ws : List Nat) (f m : Nat) (hf : f ≤ 2000000000) (hm : m ≤ 2000000000) (h : MapAt W gm gw n ws) (hT : TabZ W) :
    Calls Tryd.prog 11 #[.pointer (some ⟨gm, 0, none⟩), .bool on, .int .i64 (f : Int), .int .i64 (m : Int)] W fun e w' => e = .returned (.bool (runB on n ws f m)) ∧ w' = W := by
  have H := Lib.hid h
  have HT := Lib.hid hT
  have hn := h.2.2.2.1
  have n1 : (n : Int) ≤ 1048576 := by omega
  have f0 : (0 : Int) ≤ (f : Int) := by omega
  have f1 : (f : Int) ≤ 2000000000 := by omega
  have m0 : (0 : Int) ≤ (m : Int) := by omega
  have m1 : (m : Int) ≤ 2000000000 := by omega
  have f2 : ¬ (f : Int) < 0 := by omega
  have m2 : ¬ (m : Int) < 0 := by omega
  clear h hT
  by_cases h1 : (n : Int) < (f : Int)
  · have e : Hid (runB on n ws f m = false) := Lib.hid (by simp only [runB, Bool.and_eq_false_iff, decide_eq_false_iff_not]; left; omega)
    go_enter Tryd.func11, Tryd.ntmps11
    go_wp2_with (go_at_call 13; refine (len_any _ gm gw n ws H.out).mono ?_; rintro e w' ⟨rfl, rfl⟩)
    go_ret
    exact ⟨ret_bool (by rw [e.out]), rfl⟩
  by_cases h2 : (n : Int) - (f : Int) < (m : Int)
  · have e : Hid (runB on n ws f m = false) := Lib.hid (by simp only [runB, Bool.and_eq_false_iff, decide_eq_false_iff_not]; left; omega)
    have h3 : (f : Int) ≤ (n : Int) := by omega
    go_enter Tryd.func11, Tryd.ntmps11
    go_wp2_with (go_at_call 13; refine (len_any _ gm gw n ws H.out).mono ?_; rintro e w' ⟨rfl, rfl⟩)
    go_ret
    exact ⟨ret_bool (by rw [e.out]), rfl⟩
  have h3 : (f : Int) ≤ (n : Int) := by omega
  have h4 : (m : Int) ≤ (n : Int) - (f : Int) := by omega
  have hr : Hid (∀ r : Int, FirstS (!on) n ws f r → runB on n ws f m = decide ((m : Int) = 0 ∨ r < 0 ∨ (f : Int) + m ≤ r)) := Lib.hid (fun r hr => run_first (by omega) (by omega) h3 h4 hr)
  go_enter Tryd.func11, Tryd.ntmps11
  go_wp2_with (first | (go_at_call 13; refine (len_any _ gm gw n ws H.out).mono ?_; rintro e w' ⟨rfl, rfl⟩) | (go_at_call 10; refine (first_any (!on) _ gm gw n ws f hf H.out HT.out).mono ?_; rintro e w' ⟨r, rfl, hfs, rfl⟩; have E := Lib.hid (hr.out r hfs); clear hfs))
  all_goals go_ret
  all_goals refine ⟨ret_bool ?_, rfl⟩
  all_goals rw [E.out]
  all_goals (rw [Bool.eq_iff_iff]; simp; try omega)
end Go.Proofs.YtjlgkefklklphaaDoor
