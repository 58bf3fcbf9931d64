/- The document's example holds; New of sizes that may not be. Condition: the table of TrailingZeros64. -/
import Derived.Test.YtjbkkloobggjkaaDoorB12
namespace Go.Proofs.YtjbkkloobggjkaaDoor
open Go.RowKit Go.Maps

set_option maxRecDepth 100000 in
theorem bnew_small (n : Int) (w : World) (h : n < 65536) : Calls Tryd.prog 8 #[.int .i64 n] w fun e w' => e = .returned (.pointer none) ∧ w' = w := by
  have t1 : decide (n < 65536) = true := decide_eq_true h
  clear h
  go_enter Tryd.func8, Tryd.ntmps8
  go_wp2
  go_ret
  exact ⟨rfl, rfl⟩
set_option maxRecDepth 100000 in
theorem bnew_great (n : Int) (w : World) (h : 1073741824 < n) : Calls Tryd.prog 8 #[.int .i64 n] w fun e w' => e = .returned (.pointer none) ∧ w' = w := by
  have t1 : decide (n < 65536) = false := decide_eq_false (by omega)
  have t2 : decide (1073741824 < n) = true := decide_eq_true h
  clear h
  go_enter Tryd.func8, Tryd.ntmps8
  go_wp2
  go_ret
  exact ⟨rfl, rfl⟩
set_option maxRecDepth 100000 in
theorem bnew_no (N : Nat) (NN : Int) (hN : NN = (N : Int)) (w : World) (h1 : 65536 ≤ N) (h2 : N ≤ 1073741824) (hp : pop N ≠ 1) : Calls Tryd.prog 8 #[.int .i64 NN] w fun e w' => e = .returned (.pointer none) ∧ w' = w := by
  have t1 : decide (NN < 65536) = false := decide_eq_false (by omega)
  have t2 : decide (1073741824 < NN) = false := decide_eq_false (by omega)
  have z1 : IntKind.u64.wrap NN = (N : Int) := by rw [IntKind.wrap_u64]; omega
  have hNl : Hid (N < 18446744073709551616) := Lib.hid (by omega)
  obtain ⟨p, hpe⟩ : ∃ p, pop N = p := ⟨_, rfl⟩
  rw [hpe] at hp
  have Hp := Lib.hid hpe
  have i3 : ((p : Int) != 1) = true := by simp; omega
  have i4 : ¬ (p : Int) = 1 := by omega
  clear hpe h1 h2 hN hp
  go_enter Tryd.func8, Tryd.ntmps8
  go_wp2_with (go_at_call 24; refine (onescount_any N hNl.out _).mono ?_; rintro e w' ⟨rfl, rfl⟩; rw [Hp.out])
  go_ret
  exact ⟨rfl, rfl⟩
def a0 : List Tl := [(6, true)]
def a1 : List Tl := [(0, false), (0, true), (1, true), (2, true), (3, true), (4, true), (5, true)]
def a2 : List Tl := [(0, false), (0, false), (1, true), (2, true), (3, true), (4, true), (5, true)]
def a3 : List Tl := [(0, false), (0, false), (1, false), (2, true), (3, true), (4, true), (5, true)]
def a4 : List Tl := [(0, false), (0, true), (1, false), (2, true), (3, true), (4, true), (5, true)]
set_option maxRecDepth 100000 in
set_option maxHeartbeats 1600000 in
theorem alive_any (W : World) (hT : TabZ W) : Calls Tryd.prog 7 #[] W fun e w' => e = .returned (.bool true) ∧ Below W.heap.size W w' := by
  have HT := Lib.hid hT
  clear hT
  go_enter Tryd.func7, Tryd.ntmps7
  go_wp2_with fail
  refine (new_g 65536 6 65536 rfl (by decide) (by omega) (by omega) _ HT.out).mono ?_
  rintro e w1 ⟨b, gm, gw, mu, rfl, h1⟩
  have H1 := Lib.hid h1
  clear h1
  go_wp2_with fail
  refine (take_l H1.out HT.out (by omega) 0 0 0 a1 (by decide)).mono ?_
  rintro e w2 ⟨rfl, h2⟩
  have H2 := Lib.hid h2
  clear h2 H1
  go_wp2_with fail
  refine (take_l H2.out HT.out (by omega) 0 1024 0 a2 (by decide)).mono ?_
  rintro e w3 ⟨rfl, h3⟩
  have H3 := Lib.hid h3
  clear h3 H2
  go_wp2_with fail
  refine (take_l H3.out HT.out (by omega) 1 2048 0 a3 (by decide)).mono ?_
  rintro e w4 ⟨rfl, h4⟩
  have H4 := Lib.hid h4
  clear h4 H3
  go_wp2_with fail
  refine (left_g H4.out HT.out).mono ?_
  rintro e w5 ⟨rfl, h5, _⟩
  have H5 := Lib.hid h5
  rw [show leftB (blks true 0 a3) = 61440 by decide]
  clear h5 H4
  go_wp2_with fail
  refine (give_l H5.out 1024 (by decide) 0 a4 (by decide)).mono ?_
  rintro e w6 ⟨rfl, h6⟩
  have H6 := Lib.hid h6
  clear h6 H5
  go_wp2_with fail
  refine (give_l H6.out 1024 (by decide) 6 a4 (by decide)).mono ?_
  rintro e w7 ⟨rfl, h7⟩
  have H7 := Lib.hid h7
  clear h7 H6
  go_wp2_with fail
  refine (take_l H7.out HT.out (by omega) 7 0 1 a4 (by decide)).mono ?_
  rintro e w8 ⟨rfl, h8⟩
  have H8 := Lib.hid h8
  clear h8 H7
  go_wp2_with fail
  refine (order_l H8.out 2048 (by decide) 1 (by decide)).mono ?_
  rintro e w' ⟨rfl, rfl⟩
  go_wp2_with fail
  refine (order_l H8.out 1024 (by decide) (-1) (by decide)).mono ?_
  rintro e w' ⟨rfl, rfl⟩
  go_wp2_with fail
  refine (used_g H8.out (by omega)).mono ?_
  rintro e w9 ⟨A, m, cap, rfl, hm, h9, _⟩
  have hm2 : m = 2 := by rw [hm]; decide
  subst hm2
  have H9 := Lib.hid h9
  clear h9 H8 hm
  go_wp2_with fail
  refine (greatest_l H9.out 5 (by decide)).mono ?_
  rintro e w' ⟨rfl, rfl⟩
  go_wp2_with fail
  refine (bnew_small 5 _ (by omega)).mono ?_
  rintro e w' ⟨rfl, rfl⟩
  go_wp2
  go_ret
  exact ⟨rfl, H9.out.way⟩
end Go.Proofs.YtjbkkloobggjkaaDoor
