/- The walk of BuddyActs. Condition: the acts are read. -/
import Derived.Test.YtjbkkloobggjkaaDoorD0
import Derived.Test.YtjbkkloobggjkaaDoorC1
import Derived.Deep.CutRange
import Derived.Deep.CutBlock
namespace Go.Proofs.YtjbkkloobggjkaaDoor
open Go.RowKit Go.Maps

section
variable {W w w' : World} {b top : Nat} {gm gw : Nat → Nat} {mu n : Nat} {r : List Tl} {g : Nat} {A1 A2 : Option Addr} {c1 c2 : Nat}
theorem aleft (h : AC W w b top gm gw mu n r g A1 c1 A2 c2 r) (hT : TabZ W) (LB : Int) (hl : ((leftB (blks true 0 r) : Nat) : Int) = LB) : Calls Tryd.prog 15 #[.pointer (some ⟨b, 0, none⟩)] w fun e w' => e = .returned (.int .i64 LB) ∧ AC W w' b top gm gw mu n r g A1 c1 A2 c2 r :=
  (left_g h.bg hT).mono fun e w' ⟨he, _, hb⟩ => ⟨by rw [he, hl], h.below hb⟩
theorem agreat (h : AC W w b top gm gw mu n r g A1 c1 A2 c2 r) (TC : Int) (ht : topC r = TC) : Calls Tryd.prog 16 #[.pointer (some ⟨b, 0, none⟩)] w fun e w' => e = .returned (.int .i64 TC) ∧ w' = w := greatest_l h.bg TC ht
theorem aorder (h : AC W w b top gm gw mu n r g A1 c1 A2 c2 r) (x : Int) (hx : (Lit.int .i64 x).wf = true) (OR : Int) (ho : orderC r x = OR) : Calls Tryd.prog 12 #[.pointer (some ⟨b, 0, none⟩), .int .i64 x] w fun e w' => e = .returned (.int .i64 OR) ∧ w' = w := order_l h.bg x hx OR ho
theorem arorder (h : AC W w b top gm gw mu n r g A1 c1 A2 c2 r) (x : Int) (OR : Int) (ho : orderC r x = OR) : Calls Tryd.prog 21 #[.pointer (some ⟨g, 0, none⟩), .int .i64 x] w fun e w' => e = .returned (.int .i64 OR) ∧ w' = w := rorder_any h.rb (h.bg.len false) x OR ho
theorem arleft (h : AC W w b top gm gw mu n r g A1 c1 A2 c2 r) (LB TC : Int) (hl : ((leftB (blks true 0 r) : Nat) : Int) = LB) (ht : topC r = TC) : Calls Tryd.prog 20 #[.pointer (some ⟨g, 0, none⟩)] w fun e w' => e = .returned (.tuple #[.int .i64 LB, .int .i64 TC]) ∧ w' = w :=
  (rleft_any h.rb h.bg.good h.bg.tle).mono fun e w' ⟨he, hw⟩ => ⟨by rw [he, hl, ht], hw⟩
theorem afree (h : AC W w b top gm gw mu n r g A1 c1 A2 c2 r) (hT : TabZ W) (m : Nat) (hm : (blks true 0 r).length = m) : Calls Tryd.prog 13 #[.pointer (some ⟨b, 0, none⟩)] w fun e w' => ∃ A cap, e = .returned (.slice A m cap) ∧ HeldS w' (A, bCells (blks true 0 r)) ∧ AC W w' b top gm gw mu n r g A1 c1 A2 c2 r :=
  (free_g h.bg hT).mono fun e w' ⟨A, m', cap, he, hm', hh, hb⟩ => ⟨A, cap, by rw [he, hm', hm], hh.held List.mem_cons_self, h.below hb⟩
theorem aused (h : AC W w b top gm gw mu n r g A1 c1 A2 c2 r) (hn : n < 1000) (m : Nat) (hm : (blks false 0 r).length = m) : Calls Tryd.prog 14 #[.pointer (some ⟨b, 0, none⟩)] w fun e w' => ∃ A cap, e = .returned (.slice A m cap) ∧ HeldS w' (A, bCells (blks false 0 r)) ∧ AC W w' b top gm gw mu n r g A1 c1 A2 c2 r :=
  (used_g h.bg hn).mono fun e w' ⟨A, m', cap, he, hm', hh, hb⟩ => ⟨A, cap, by rw [he, hm', hm], hh.held List.mem_cons_self, h.below hb⟩
theorem asameF (h : AC W w b top gm gw mu n r g A1 c1 A2 c2 r) (m : Nat) (hm : (blks true 0 r).length = m) (A : Option Addr) (ca : Nat) (hA : HeldS w (A, bCells (blks true 0 r))) : Calls Tryd.prog 22 #[.slice A m ca, .slice A1 m c1] w fun e w' => e = .returned (.bool true) ∧ AC W w' b top gm gw mu n r g A1 c1 A2 c2 r :=
  (same_b (blks true 0 r) m hm.symm A A1 ca c1 w hA.sl h.rb.f.sl (by have := h.bg.len true; omega)).mono fun e w' ⟨he, hb⟩ => ⟨he, h.below hb⟩
theorem asameU (h : AC W w b top gm gw mu n r g A1 c1 A2 c2 r) (m : Nat) (hm : (blks false 0 r).length = m) (A : Option Addr) (ca : Nat) (hA : HeldS w (A, bCells (blks false 0 r))) : Calls Tryd.prog 22 #[.slice A m ca, .slice A2 m c2] w fun e w' => e = .returned (.bool true) ∧ AC W w' b top gm gw mu n r g A1 c1 A2 c2 r :=
  (same_b (blks false 0 r) m hm.symm A A2 ca c2 w hA.sl h.rb.u.sl (by have := h.bg.len false; omega)).mono fun e w' ⟨he, hb⟩ => ⟨he, h.below hb⟩
end
set_option maxRecDepth 100000 in
theorem acts_long (n0 : Int) (A : Option Addr) (nl cap : Nat) (h : 100 < nl) (w : World) (hT : TabZ w) : Calls Tryd.prog 3 #[.int .i64 n0, .slice A nl cap] w fun e w' => e = .returned (.bool true) ∧ Below w.heap.size w w' := by
  have i1 : (100 : Int) < (nl : Int) := by omega
  have HT := Lib.hid hT
  clear h hT
  go_enter Tryd.func3, Tryd.ntmps3
  go_wp2_with fail
  refine (alive_any _ HT.out).mono ?_
  rintro e w1 ⟨rfl, hb⟩
  have HB := Lib.hid hb
  clear hb
  go_wp2
  go_ret
  exact ⟨rfl, HB.out⟩
set_option maxRecDepth 100000 in
theorem acts_mid (n0 : Int) (A : Option Addr) (nl cap : Nat) (h : nl ≤ 100) (h1 : 1048576 < n0) (h2 : n0 ≤ 1073741824) (w : World) (hT : TabZ w) : Calls Tryd.prog 3 #[.int .i64 n0, .slice A nl cap] w fun e w' => e = .returned (.bool true) ∧ Below w.heap.size w w' := by
  have i1 : ¬ (100 : Int) < (nl : Int) := by omega
  have t1 : decide (1048576 < n0) = true := decide_eq_true h1
  have t2 : decide (n0 ≤ 1073741824) = true := decide_eq_true h2
  have HT := Lib.hid hT
  clear h hT h1 h2
  go_enter Tryd.func3, Tryd.ntmps3
  go_wp2_with fail
  refine (alive_any _ HT.out).mono ?_
  rintro e w1 ⟨rfl, hb⟩
  have HB := Lib.hid hb
  clear hb
  go_wp2
  go_ret
  exact ⟨rfl, HB.out⟩
theorem bnew_nil (n0 : Int) (w : World) (h : n0 < 65536 ∨ 1073741824 < n0 ∨ (65536 ≤ n0 ∧ n0 ≤ 1073741824 ∧ pop n0.toNat ≠ 1)) : Calls Tryd.prog 8 #[.int .i64 n0] w fun e w' => e = .returned (.pointer none) ∧ w' = w := by
  rcases h with h | h | ⟨h1, h2, h3⟩
  · exact bnew_small n0 w h
  · exact bnew_great n0 w h
  · exact bnew_no n0.toNat n0 (by omega) w (by omega) (by omega) h3
set_option maxRecDepth 100000 in
set_option maxHeartbeats 3200000 in
theorem acts_nil (n0 : Int) (A : Option Addr) (nl cap : Nat) (h : nl ≤ 100) (h1 : ¬ (1048576 < n0 ∧ n0 ≤ 1073741824)) (h2 : ∀ p : Nat, MayS n0 p → (p : Int) ≠ n0) (h3 : n0 < 65536 ∨ 1073741824 < n0 ∨ (65536 ≤ n0 ∧ n0 ≤ 1073741824 ∧ pop n0.toNat ≠ 1)) (w : World) (hT : TabZ w) : Calls Tryd.prog 3 #[.int .i64 n0, .slice A nl cap] w fun e w' => e = .returned (.bool true) ∧ Below w.heap.size w w' := by
  have i1 : ¬ (100 : Int) < (nl : Int) := by omega
  have HT := Lib.hid hT
  have H2 := Lib.hid h2
  have H3 := Lib.hid h3
  by_cases q : 1048576 < n0
  case' pos =>
    have t1 : decide (1048576 < n0) = true := decide_eq_true q
    have t2 : decide (n0 ≤ 1073741824) = false := decide_eq_false (by omega)
  case' neg =>
    have t1 : decide (1048576 < n0) = false := decide_eq_false q
  all_goals
    clear h hT h1 h2 h3 q
    go_enter Tryd.func3, Tryd.ntmps3
    go_wp2_with fail
    refine (alive_any _ HT.out).mono ?_
    rintro e w1 ⟨rfl, hb⟩
    have HB := Lib.hid hb
    clear hb
    go_wp2_with fail
    refine (bnew_nil n0 _ H3.out).mono ?_
    rintro e w2 ⟨rfl, rfl⟩
    go_wp2_with fail
    refine (rmay_any n0 _).mono ?_
    rintro e w3 ⟨p, rfl, hp, rfl⟩
    have hne : ((p : Int) == n0) = false := by simpa using H2.out p hp
    rw [hne]
    clear hne hp
    go_wp2_with fail
    refine (take_nil 0 _).mono ?_
    rintro e w3 ⟨rfl, rfl⟩
    go_wp2_with fail
    refine (give_nil 0 _).mono ?_
    rintro e w3 ⟨rfl, rfl⟩
    go_wp2_with fail
    refine (order_nil 0 _).mono ?_
    rintro e w3 ⟨rfl, rfl⟩
    go_wp2_with fail
    refine (free_nil _).mono ?_
    rintro e w4 ⟨A4, k4, rfl, hb4⟩
    have HB4 := Lib.hid (HB.out.trans (hb4.mono HB.out.size))
    clear hb4
    go_wp2_with fail
    refine (used_nil _).mono ?_
    rintro e w5 ⟨A5, k5, rfl, hb5⟩
    have HB5 := Lib.hid (HB4.out.trans (hb5.mono HB4.out.size))
    clear hb5
    go_wp2_with fail
    refine (left_nil _).mono ?_
    rintro e w6 ⟨rfl, hb6⟩
    have HB6 := Lib.hid (HB5.out.trans (hb6.mono HB5.out.size))
    clear hb6
    go_wp2_with fail
    refine (greatest_nil _).mono ?_
    rintro e w7 ⟨rfl, rfl⟩
    go_wp2
    go_ret
    exact ⟨rfl, HB6.out⟩
end Go.Proofs.YtjbkkloobggjkaaDoor
