/- The contract of the reference's May of calls. Condition: the call's lists are read. -/
import Derived.Test.YtmjkljgccaipoaaDoorG2
import Derived.Test.YtmjkljgccaipoaaDoorE3
namespace Go.Proofs.YtmjkljgccaipoaaDoor
open Go.RowKit

theorem in_any (n l m : Int) (w : World) : Calls Tryd.prog 27 #[.int .i64 n, .int .i64 l, .int .i64 m] w fun e w' => e = .returned (.bool (decide (l ≤ n ∧ n ≤ m))) ∧ w' = w := by
  go_enter Tryd.func27, Tryd.ntmps27
  go_wp2
  all_goals go_ret
  all_goals refine ⟨ret_bool ?_, rfl⟩
  all_goals (rw [Bool.eq_iff_iff]; simp; try omega)

theorem Fits14_lit (i : Itm) (r : Bool) (hr : mayI i = r) (w : World) : Calls Tryd.prog 26 #[.agg #[.int .i64 i.base, .int .i64 i.order, .int .i64 i.rights, .int .i64 i.off, .bool i.grant]] w fun e w' => e = .returned (.bool r) ∧ Below w.heap.size w w' := by
  have := Fits14_any i w
  rw [hr] at this
  exact this

set_option maxRecDepth 100000 in
set_option maxHeartbeats 3200000 in
theorem may21_any (c : Cal) (A B : Option Addr) (cw ci : Nat) (w : World) (h : CallR w c A B) :
    Calls Tryd.prog 13 #[.agg #[.int .i64 c.op, .int .i64 c.slot, .int .i64 c.a, .int .i64 c.b, .int .i64 c.c, .bool c.flag, .int .u64 (c.x : Int), .slice A c.words.length cw, .slice B c.items.length ci]] w
      fun e w' => e = .returned (.bool (mayC c)) ∧ Below w.heap.size w w' := by
  by_cases hr : (8 : Int) < (c.words.length : Int) ∨ (2 : Int) < (c.items.length : Int)
  · have hm : mayC c = false := by
      rw [Bool.eq_false_iff]
      intro hm
      have := ((mayC_iff c).1 hm).2
      omega
    rw [hm]
    rcases hr with h1 | h1
    · go_enter Tryd.func13, Tryd.ntmps13
      go_wp2_with fail
      go_ret
      exact ⟨rfl, (Below.refl _ _).alloc (Nat.le_refl _) _⟩
    · by_cases h2 : (8 : Int) < (c.words.length : Int)
      · go_enter Tryd.func13, Tryd.ntmps13
        go_wp2_with fail
        go_ret
        exact ⟨rfl, (Below.refl _ _).alloc (Nat.le_refl _) _⟩
      · go_enter Tryd.func13, Tryd.ntmps13
        go_wp2_with fail
        go_ret
        exact ⟨rfl, (Below.refl _ _).alloc (Nat.le_refl _) _⟩
  · have h1 : ¬ (8 : Int) < (c.words.length : Int) := by omega
    have h2 : ¬ (2 : Int) < (c.items.length : Int) := by omega
    have Hst0 := Lib.hid (St1.new (cw := cw) (ci := ci) h)
    have Hlen : Hid (c.words.length ≤ 8 ∧ c.items.length ≤ 2) := Lib.hid ⟨by omega, by omega⟩
    clear hr h
    go_enter Tryd.func13, Tryd.ntmps13
    go_wp2_with fail
    go_loopw [3] (fun i wr => ∃ k : Nat, k ≤ c.items.length ∧ i = .int .i64 k ∧ (∀ j (hj : j < c.items.length), j < k → mayI c.items[j] = true) ∧ St1 w wr w.heap.size c A cw B ci)
      (fun i _ => c.items.length - (intOf i).toNat)
    case atStart => exact ⟨0, Nat.zero_le _, rfl, fun j _ h => absurd h (by omega), Hst0.out⟩
    case round =>
      obtain ⟨k, hk, rfl, hyes, hst⟩ := hrel
      have Hyes := Lib.hid hyes
      have Hst := Lib.hid hst
      clear hyes hst
      have i1 : (0 : Int) ≤ (k : Int) := Int.natCast_nonneg _
      obtain ⟨c0, c1, c2, c3, c4, c5, c6, c7, c8⟩ := Hst.out.cells
      by_cases hlt : k < c.items.length
      · have i2 : (k : Int) < (c.items.length : Int) := by omega
        obtain ⟨b, off, rfl, hbw, j0, j1, j2, j3, j4⟩ := Hst.out.r.2.1.item hlt
        by_cases hm : mayI c.items[k] = true
        · go_wp2_with (go_at_call 26; refine (Fits14_lit c.items[k] true hm _).mono ?_; rintro e w3 ⟨rfl, hb3⟩)
          go_roundw
          case rel =>
            refine ⟨k + 1, by omega, by go_num, fun j hj hjk => ?_, Hst.out.step hb3⟩
            rcases Nat.lt_succ_iff_lt_or_eq.1 hjk with h | rfl
            · exact Hyes.out j hj h
            · exact hm
          case measure => simp [intOf]; omega
        · have hm : mayI c.items[k] = false := by simpa using hm
          go_wp2_with (go_at_call 26; refine (Fits14_lit c.items[k] false hm _).mono ?_; rintro e w3 ⟨rfl, hb3⟩)
          go_ret
          exact ⟨ret_bool (mayC_no hlt hm).symm, (Hst.out.step hb3).1⟩
      · have hall : c.items.all mayI = true := mayC_of_items fun j hj => Hyes.out j hj (by omega)
        have Hall := Lib.hid hall
        have i2 : ¬ (k : Int) < (c.items.length : Int) := by omega
        clear hall Hyes
        go_wp2_with (go_at_call 27; refine (in_any _ _ _ _).mono ?_; rintro e w3 ⟨rfl, rfl⟩)
        all_goals go_ret
        all_goals refine ⟨ret_bool ?_, Hst.out.1⟩
        all_goals have hlen := Hlen.out
        all_goals (simp only [mayC, Hall.out, Bool.true_and]; rw [Bool.eq_iff_iff]; simp; try omega)
end Go.Proofs.YtmjkljgccaipoaaDoor
