/- The walk of CallWords: of a call whose lists are read, true. Condition: the table of Asks holds what its text says. -/
import Derived.Test.YtmjkljgccaipoaaDoorG4
namespace Go.Proofs.YtmjkljgccaipoaaDoor
open Go.RowKit

theorem enc21_lit (c : Cal) (l : List Nat) (hl : encC c = l) (n : Nat) (hn : l.length = n) (A B : Option Addr) (cw ci : Nat) (w : World) (h : CallR w c A B) :
    Calls Tryd.prog 16 #[.agg #[.int .i64 c.op, .int .i64 c.slot, .int .i64 c.a, .int .i64 c.b, .int .i64 c.c, .bool c.flag, .int .u64 (c.x : Int), .slice A c.words.length cw, .slice B c.items.length ci]] w
      fun e w' => ∃ (Z : Option Addr) (k : Nat), e = .returned (.slice Z n k) ∧ n ≤ k ∧ SlR w' Z (u64s l) ∧ Below w.heap.size w w' := by
  subst hl hn
  exact enc21_any c A B cw ci w h

set_option maxRecDepth 100000 in
set_option maxHeartbeats 3200000 in
theorem wlaw_long1 (c : Cal) (A B : Option Addr) (cw ci : Nat) (w : World) (hT : TabAt w) (hc : CallR w c A B) (hl : (50 : Int) < (c.words.length : Int)) :
    Calls Tryd.prog 3 #[.agg #[.int .i64 c.op, .int .i64 c.slot, .int .i64 c.a, .int .i64 c.b, .int .i64 c.c, .bool c.flag, .int .u64 (c.x : Int), .slice A c.words.length cw, .slice B c.items.length ci]] w
      fun e w' => e = .returned (.bool true) ∧ Below w.heap.size w w' := by
  have Hst0 := Lib.hid (St1.new (cw := cw) (ci := ci) hc)
  have HT := Lib.hid (hT.below hT.lt Hst0.out.1)
  clear hc hT
  go_enter Tryd.func3, Tryd.ntmps3
  go_wp2_with fail
  refine (alive_any _ HT.out).mono ?_
  rintro e w1 ⟨rfl, hb1⟩
  have Hst1 := Lib.hid (Hst0.out.step hb1)
  clear hb1 Hst0
  obtain ⟨c0, c1, c2, c3, c4, c5, c6, c7, c8⟩ := Hst1.out.cells
  go_wp2_with fail
  go_ret
  exact ⟨rfl, Hst1.out.1⟩
set_option maxRecDepth 100000 in
set_option maxHeartbeats 3200000 in
theorem wlaw_long2 (c : Cal) (A B : Option Addr) (cw ci : Nat) (w : World) (hT : TabAt w) (hc : CallR w c A B) (hl : ¬ (50 : Int) < (c.words.length : Int)) (hm : (50 : Int) < (c.items.length : Int)) :
    Calls Tryd.prog 3 #[.agg #[.int .i64 c.op, .int .i64 c.slot, .int .i64 c.a, .int .i64 c.b, .int .i64 c.c, .bool c.flag, .int .u64 (c.x : Int), .slice A c.words.length cw, .slice B c.items.length ci]] w
      fun e w' => e = .returned (.bool true) ∧ Below w.heap.size w w' := by
  have Hst0 := Lib.hid (St1.new (cw := cw) (ci := ci) hc)
  have HT := Lib.hid (hT.below hT.lt Hst0.out.1)
  clear hc hT
  go_enter Tryd.func3, Tryd.ntmps3
  go_wp2_with fail
  refine (alive_any _ HT.out).mono ?_
  rintro e w1 ⟨rfl, hb1⟩
  have Hst1 := Lib.hid (Hst0.out.step hb1)
  clear hb1 Hst0
  obtain ⟨c0, c1, c2, c3, c4, c5, c6, c7, c8⟩ := Hst1.out.cells
  go_wp2_with fail
  go_ret
  exact ⟨rfl, Hst1.out.1⟩
set_option maxRecDepth 100000 in
set_option maxHeartbeats 6400000 in
theorem wlaw_true (c : Cal) (A B : Option Addr) (cw ci : Nat) (w : World) (hT : TabAt w) (hc : CallR w c A B) (hl : ¬ (50 : Int) < (c.words.length : Int)) (hm : ¬ (50 : Int) < (c.items.length : Int)) (h0 : mayC c = true) :
    Calls Tryd.prog 3 #[.agg #[.int .i64 c.op, .int .i64 c.slot, .int .i64 c.a, .int .i64 c.b, .int .i64 c.c, .bool c.flag, .int .u64 (c.x : Int), .slice A c.words.length cw, .slice B c.items.length ci]] w
      fun e w' => e = .returned (.bool true) ∧ Below w.heap.size w w' := by
  have Hst0 := Lib.hid (St1.new (cw := cw) (ci := ci) hc)
  have HT := Lib.hid (hT.below hT.lt Hst0.out.1)
  clear hc hT
  obtain ⟨n, hn⟩ : ∃ n, (encC c).length = n := ⟨_, rfl⟩
  have Hn9 : Hid (n ≤ 9223372036854775807) := Lib.hid (by rw [← hn]; unfold encC; split <;> simp <;> omega)
  have Hn := Lib.hid hn
  have E0 := Lib.hid h0
  clear h0 hn
  go_enter Tryd.func3, Tryd.ntmps3
  go_wp2_with fail
  refine (alive_any _ HT.out).mono ?_
  rintro e w1 ⟨rfl, hb1⟩
  have Hst1 := Lib.hid (Hst0.out.step hb1)
  clear hb1 Hst0
  obtain ⟨c0, c1, c2, c3, c4, c5, c6, c7, c8⟩ := Hst1.out.cells
  have hSt := Hst1.out
  have hSd := Hst1.out.drew
  go_wp2_with fail
  clear c0 c1 c2 c3 c4 c5 c6 c7 c8
  go_region_held3 (fun w' => w'.cell? ⟨w.heap.size, 0, none⟩ = some (.int .i64 c.op) ∧ w'.cell? ⟨w.heap.size, 1, none⟩ = some (.int .i64 c.slot) ∧ w'.cell? ⟨w.heap.size, 2, none⟩ = some (.int .i64 c.a) ∧ w'.cell? ⟨w.heap.size, 3, none⟩ = some (.int .i64 c.b) ∧ w'.cell? ⟨w.heap.size, 4, none⟩ = some (.int .i64 c.c) ∧ w'.cell? ⟨w.heap.size, 5, none⟩ = some (.bool c.flag) ∧ w'.cell? ⟨w.heap.size, 6, none⟩ = some (.int .u64 (c.x : Int)) ∧ w'.cell? ⟨w.heap.size, 7, none⟩ = some (.slice A c.words.length cw) ∧ w'.cell? ⟨w.heap.size, 8, none⟩ = some (.slice B c.items.length ci)) (exact St1.cells (by assumption)) (first | (go_at_call 12; (with_reducible refine (may_lit c true E0.out _ _ _ _ _ (St1.r (by assumption))).mono ?_); rintro e w2 ⟨rfl, hb2⟩; have hSt2 := St1.step (by assumption) hb2) | (go_at_call 13; (with_reducible refine (may21_lit c true E0.out _ _ _ _ _ (St1.r (by assumption))).mono ?_); rintro e w3 ⟨rfl, hb3⟩; have hSt3 := St1.step (by assumption) hb3) | (go_at_call 15; (with_reducible refine (enc_lit c _ rfl n Hn.out _ _ _ _ _ (St1.r (by assumption))).mono ?_); rintro e w4 ⟨Z, z, rfl, _, hz, hb4⟩; have hSt4 := St1.step (by assumption) hb4) | (go_at_call 16; (with_reducible refine (enc21_lit c _ rfl n Hn.out _ _ _ _ _ (St1.r (by assumption))).mono ?_); rintro e w5 ⟨Y, y, rfl, _, hy, hb5⟩; have hSt5 := St1.step (by assumption) hb5; have hz5 := SlR.below (xs := u64s (encC c)) (by assumption) hb5) | (go_at_call 14; (with_reducible refine (words_lit (encC c) (encC c) n n Hn.out Hn.out true (by simp) _ _ _ _ _ (by assumption) (by assumption) Hn9.out Hn9.out).mono ?_); rintro e w6 ⟨rfl, hb6⟩; have hSt6 := St1.step (by assumption) hb6))
  have Hst6 := Lib.hid hSt6
  clear hSt6 hSt5 hSt4 hSt3 hSt2 hSt hSd
  go_wp2_with fail
  go_ret
  exact ⟨ret_bool (by simp), Hst6.out.1⟩
set_option maxRecDepth 100000 in
set_option maxHeartbeats 6400000 in
theorem wlaw_false (c : Cal) (A B : Option Addr) (cw ci : Nat) (w : World) (hT : TabAt w) (hc : CallR w c A B) (hl : ¬ (50 : Int) < (c.words.length : Int)) (hm : ¬ (50 : Int) < (c.items.length : Int)) (h0 : mayC c = false) :
    Calls Tryd.prog 3 #[.agg #[.int .i64 c.op, .int .i64 c.slot, .int .i64 c.a, .int .i64 c.b, .int .i64 c.c, .bool c.flag, .int .u64 (c.x : Int), .slice A c.words.length cw, .slice B c.items.length ci]] w
      fun e w' => e = .returned (.bool true) ∧ Below w.heap.size w w' := by
  have Hst0 := Lib.hid (St1.new (cw := cw) (ci := ci) hc)
  have HT := Lib.hid (hT.below hT.lt Hst0.out.1)
  clear hc hT
  obtain ⟨n, hn⟩ : ∃ n, (encC c).length = n := ⟨_, rfl⟩
  have Hn9 : Hid (n ≤ 9223372036854775807) := Lib.hid (by rw [← hn]; unfold encC; split <;> simp <;> omega)
  have Hn := Lib.hid hn
  have E0 := Lib.hid h0
  clear h0 hn
  go_enter Tryd.func3, Tryd.ntmps3
  go_wp2_with fail
  refine (alive_any _ HT.out).mono ?_
  rintro e w1 ⟨rfl, hb1⟩
  have Hst1 := Lib.hid (Hst0.out.step hb1)
  clear hb1 Hst0
  obtain ⟨c0, c1, c2, c3, c4, c5, c6, c7, c8⟩ := Hst1.out.cells
  have hSt := Hst1.out
  have hSd := Hst1.out.drew
  go_wp2_with fail
  clear c0 c1 c2 c3 c4 c5 c6 c7 c8
  go_region_held3 (fun w' => w'.cell? ⟨w.heap.size, 0, none⟩ = some (.int .i64 c.op) ∧ w'.cell? ⟨w.heap.size, 1, none⟩ = some (.int .i64 c.slot) ∧ w'.cell? ⟨w.heap.size, 2, none⟩ = some (.int .i64 c.a) ∧ w'.cell? ⟨w.heap.size, 3, none⟩ = some (.int .i64 c.b) ∧ w'.cell? ⟨w.heap.size, 4, none⟩ = some (.int .i64 c.c) ∧ w'.cell? ⟨w.heap.size, 5, none⟩ = some (.bool c.flag) ∧ w'.cell? ⟨w.heap.size, 6, none⟩ = some (.int .u64 (c.x : Int)) ∧ w'.cell? ⟨w.heap.size, 7, none⟩ = some (.slice A c.words.length cw) ∧ w'.cell? ⟨w.heap.size, 8, none⟩ = some (.slice B c.items.length ci)) (exact St1.cells (by assumption)) (first | (go_at_call 12; (with_reducible refine (may_lit c false E0.out _ _ _ _ _ (St1.r (by assumption))).mono ?_); rintro e w2 ⟨rfl, hb2⟩; have hSt2 := St1.step (by assumption) hb2) | (go_at_call 13; (with_reducible refine (may21_lit c false E0.out _ _ _ _ _ (St1.r (by assumption))).mono ?_); rintro e w3 ⟨rfl, hb3⟩; have hSt3 := St1.step (by assumption) hb3) | (go_at_call 15; (with_reducible refine (enc_lit c _ rfl n Hn.out _ _ _ _ _ (St1.r (by assumption))).mono ?_); rintro e w4 ⟨Z, z, rfl, _, hz, hb4⟩; have hSt4 := St1.step (by assumption) hb4) | (go_at_call 16; (with_reducible refine (enc21_lit c _ rfl n Hn.out _ _ _ _ _ (St1.r (by assumption))).mono ?_); rintro e w5 ⟨Y, y, rfl, _, hy, hb5⟩; have hSt5 := St1.step (by assumption) hb5; have hz5 := SlR.below (xs := u64s (encC c)) (by assumption) hb5) | (go_at_call 14; (with_reducible refine (words_lit (encC c) (encC c) n n Hn.out Hn.out true (by simp) _ _ _ _ _ (by assumption) (by assumption) Hn9.out Hn9.out).mono ?_); rintro e w6 ⟨rfl, hb6⟩; have hSt6 := St1.step (by assumption) hb6))
  have Hst6 := Lib.hid hSt6
  clear hSt6 hSt5 hSt4 hSt3 hSt2 hSt hSd
  go_wp2_with fail
  go_ret
  exact ⟨ret_bool (by simp), Hst6.out.1⟩

theorem words_law (c : Cal) (A B : Option Addr) (cw ci : Nat) (w : World) (hT : TabAt w) (hc : CallR w c A B) (_ : CalB c) :
    Calls Tryd.prog 3 #[.agg #[.int .i64 c.op, .int .i64 c.slot, .int .i64 c.a, .int .i64 c.b, .int .i64 c.c, .bool c.flag, .int .u64 (c.x : Int), .slice A c.words.length cw, .slice B c.items.length ci]] w
      fun e w' => e = .returned (.bool true) ∧ Below w.heap.size w w' := by
  by_cases hl : (50 : Int) < (c.words.length : Int)
  · exact wlaw_long1 c A B cw ci w hT hc hl
  by_cases hm : (50 : Int) < (c.items.length : Int)
  · exact wlaw_long2 c A B cw ci w hT hc hl hm
  cases h0 : mayC c
  · exact wlaw_false c A B cw ci w hT hc hl hm h0
  · exact wlaw_true c A B cw ci w hT hc hl hm h0
end Go.Proofs.YtmjkljgccaipoaaDoor
