/- The walk of CallBack: of a call whose lists are read, true. Condition: the table of Asks holds what its text says. -/
import Derived.Test.YtmjkljgccaipoaaDoorE1
namespace Go.Proofs.YtmjkljgccaipoaaDoor
open Go.RowKit

def CalB (c : Cal) : Prop := c.x < 18446744073709551616 ∧ ∀ x ∈ c.words, x < 18446744073709551616
theorem encC_lt (c : Cal) (h : CalB c) : ∀ x ∈ encC c, x < 18446744073709551616 := by
  intro x hx
  by_cases hm : mayC c = true
  · simp only [encC, hm, if_true, List.mem_cons, List.mem_append, List.mem_map] at hx
    rcases hx with rfl | rfl | hx | ⟨i, hi, rfl⟩
    · have := (headC_lt c hm).1; omega
    · exact h.1
    · exact h.2 x hx
    · have := codeI_lt i (((mayC_iff c).1 hm).1 i hi); omega
  · simp [encC, hm] at hx
theorem dec_lit (c : Cal) (hm : mayC c = true) (hB : CalB c) (n : Nat) (hn : (encC c).length = n) (Z : Option Addr) (k : Nat) (hk : n ≤ k) (w : World) (h : SlR w Z (u64s (encC c))) (hi : c.items.length ≤ 9223372036854775807) (hw : c.words.length ≤ 9223372036854775807) :
    Calls Tryd.prog 17 #[.slice Z n k] w
      fun e w' => ∃ (D : Option Addr) (dw : Nat) (E : Option Addr) (di : Nat), e = .returned (.tuple #[.agg #[.int .i64 c.op, .int .i64 c.slot, .int .i64 c.a, .int .i64 c.b, .int .i64 c.c, .bool c.flag, .int .u64 (c.x : Int), .slice D c.words.length dw, .slice E c.items.length di], .int .i64 0]) ∧ CallR w' c D E ∧ Below w.heap.size w w' := by
  have hl := encC_length c hm
  have hb := ((mayC_iff c).1 hm).2
  subst hn
  have := decode_good (encC c) c (decC_encC c hm) Z k w h (encC_lt c hB) (by omega) hk
  refine this.mono fun e w' hp => ?_
  obtain ⟨A', cw, B', ci, he, h1, h2, h3⟩ := hp
  rw [show decR (encC c) = (c, 0) by simp [decR, decC_encC c hm]] at he h1 h2
  exact ⟨A', cw, B', ci, he, ⟨h1, h2, hw, hi⟩, h3⟩
/-- a call's variable, and the way here -/
def St1 (w W : World) (g : Nat) (c : Cal) (A : Option Addr) (cw : Nat) (B : Option Addr) (ci : Nat) : Prop := Below w.heap.size w W ∧ CAt W g c A cw B ci
theorem St1.step {w W W' : World} {g : Nat} {c : Cal} {A B : Option Addr} {cw ci : Nat} (h : St1 w W g c A cw B ci) (hb : Below W.heap.size W W') : St1 w W' g c A cw B ci :=
  ⟨h.1.trans (hb.mono h.1.size), h.2.below hb⟩
theorem St1.drew {w W : World} {g : Nat} {c : Cal} {A B : Option Addr} {cw ci : Nat} (h : St1 w W g c A cw B ci) : St1 w W.drew g c A cw B ci := h.step (Below.refl _ _).drew
theorem St1.alloc {w W : World} {g : Nat} {c : Cal} {A B : Option Addr} {cw ci : Nat} (h : St1 w W g c A cw B ci) (o : Obj) : St1 w (W.alloc o) g c A cw B ci := h.step ((Below.refl _ _).alloc (Nat.le_refl _) o)
theorem St1.r {w W : World} {g : Nat} {c : Cal} {A B : Option Addr} {cw ci : Nat} (h : St1 w W g c A cw B ci) : CallR W c A B := h.2.2
theorem St1.new {w : World} {c : Cal} {A B : Option Addr} {cw ci : Nat} (h : CallR w c A B) : St1 w (w.alloc (.cells #[.int .i64 c.op, .int .i64 c.slot, .int .i64 c.a, .int .i64 c.b, .int .i64 c.c, .bool c.flag, .int .u64 (c.x : Int), .slice A c.words.length cw, .slice B c.items.length ci] 26)) w.heap.size c A cw B ci :=
  ⟨(Below.refl _ _).alloc (Nat.le_refl _) _, CAt.new h⟩
theorem St1.cells {w W : World} {g : Nat} {c : Cal} {A B : Option Addr} {cw ci : Nat} (h : St1 w W g c A cw B ci) : W.cell? ⟨g, 0, none⟩ = some (.int .i64 c.op) ∧ W.cell? ⟨g, 1, none⟩ = some (.int .i64 c.slot) ∧ W.cell? ⟨g, 2, none⟩ = some (.int .i64 c.a) ∧ W.cell? ⟨g, 3, none⟩ = some (.int .i64 c.b) ∧ W.cell? ⟨g, 4, none⟩ = some (.int .i64 c.c) ∧ W.cell? ⟨g, 5, none⟩ = some (.bool c.flag) ∧ W.cell? ⟨g, 6, none⟩ = some (.int .u64 (c.x : Int)) ∧ W.cell? ⟨g, 7, none⟩ = some (.slice A c.words.length cw) ∧ W.cell? ⟨g, 8, none⟩ = some (.slice B c.items.length ci) := h.2.cells

set_option maxRecDepth 100000 in
set_option maxHeartbeats 3200000 in
theorem back_long1 (c : Cal) (A B : Option Addr) (cw ci : Nat) (w : World) (hT : TabAt w) (hc : CallR w c A B) (hl : (50 : Int) < (c.words.length : Int)) :
    Calls Tryd.prog 5 #[.agg #[.int .i64 c.op, .int .i64 c.slot, .int .i64 c.a, .int .i64 c.b, .int .i64 c.c, .bool c.flag, .int .u64 (c.x : Int), .slice A c.words.length cw, .slice B c.items.length ci]] w
      fun e w' => e = .returned (.bool true) ∧ Below w.heap.size w w' := by
  have Hst0 := Lib.hid (St1.new (cw := cw) (ci := ci) hc)
  have HT := Lib.hid (hT.below hT.lt Hst0.out.1)
  clear hc hT
  go_enter Tryd.func5, Tryd.ntmps5
  go_wp2_with fail
  refine (alive_any _ HT.out).mono ?_
  rintro e w1 ⟨rfl, hb1⟩
  have Hst1 := Lib.hid (Hst0.out.step hb1)
  clear hb1 Hst0
  obtain ⟨c0, c1, c2, c3, c4, c5, c6, c7, c8⟩ := Hst1.out.cells
  go_wp2_with fail
  go_ret
  exact ⟨rfl, Hst1.out.1⟩
set_option maxRecDepth 100000 in
set_option maxHeartbeats 3200000 in
theorem back_long2 (c : Cal) (A B : Option Addr) (cw ci : Nat) (w : World) (hT : TabAt w) (hc : CallR w c A B) (hl : ¬ (50 : Int) < (c.words.length : Int)) (hm : (50 : Int) < (c.items.length : Int)) :
    Calls Tryd.prog 5 #[.agg #[.int .i64 c.op, .int .i64 c.slot, .int .i64 c.a, .int .i64 c.b, .int .i64 c.c, .bool c.flag, .int .u64 (c.x : Int), .slice A c.words.length cw, .slice B c.items.length ci]] w
      fun e w' => e = .returned (.bool true) ∧ Below w.heap.size w w' := by
  have Hst0 := Lib.hid (St1.new (cw := cw) (ci := ci) hc)
  have HT := Lib.hid (hT.below hT.lt Hst0.out.1)
  clear hc hT
  go_enter Tryd.func5, Tryd.ntmps5
  go_wp2_with fail
  refine (alive_any _ HT.out).mono ?_
  rintro e w1 ⟨rfl, hb1⟩
  have Hst1 := Lib.hid (Hst0.out.step hb1)
  clear hb1 Hst0
  obtain ⟨c0, c1, c2, c3, c4, c5, c6, c7, c8⟩ := Hst1.out.cells
  go_wp2_with fail
  go_ret
  exact ⟨rfl, Hst1.out.1⟩
set_option maxRecDepth 100000 in
set_option maxHeartbeats 3200000 in
theorem back_no (c : Cal) (A B : Option Addr) (cw ci : Nat) (w : World) (hT : TabAt w) (hc : CallR w c A B) (hl : ¬ (50 : Int) < (c.words.length : Int)) (hm : ¬ (50 : Int) < (c.items.length : Int)) (h0 : mayC c = false) :
    Calls Tryd.prog 5 #[.agg #[.int .i64 c.op, .int .i64 c.slot, .int .i64 c.a, .int .i64 c.b, .int .i64 c.c, .bool c.flag, .int .u64 (c.x : Int), .slice A c.words.length cw, .slice B c.items.length ci]] w
      fun e w' => e = .returned (.bool true) ∧ Below w.heap.size w w' := by
  have Hst0 := Lib.hid (St1.new (cw := cw) (ci := ci) hc)
  have HT := Lib.hid (hT.below hT.lt Hst0.out.1)
  clear hc hT
  have E0 := Lib.hid h0
  have E1 : Hid (encC c = []) := Lib.hid (by simp [encC, h0])
  clear h0
  go_enter Tryd.func5, Tryd.ntmps5
  go_wp2_with fail
  refine (alive_any _ HT.out).mono ?_
  rintro e w1 ⟨rfl, hb1⟩
  have Hst1 := Lib.hid (Hst0.out.step hb1)
  clear hb1 Hst0
  obtain ⟨c0, c1, c2, c3, c4, c5, c6, c7, c8⟩ := Hst1.out.cells
  go_wp2_with fail
  refine (enc_lit c [] E1.out 0 rfl _ _ _ _ _ Hst1.out.r).mono ?_
  rintro e w2 ⟨Z, z, rfl, _, _, hb2⟩
  have Hst2 := Lib.hid (Hst1.out.step hb2)
  clear hb2 Hst1 c0 c1 c2 c3 c4 c5 c6 c7 c8
  obtain ⟨c0, c1, c2, c3, c4, c5, c6, c7, c8⟩ := Hst2.out.cells
  go_wp2_with fail
  refine (may_lit c false E0.out _ _ _ _ _ Hst2.out.r).mono ?_
  rintro e w3 ⟨rfl, hb3⟩
  have Hst3 := Lib.hid (Hst2.out.step hb3)
  clear hb3 Hst2 c0 c1 c2 c3 c4 c5 c6 c7 c8
  go_wp2_with fail
  go_ret
  exact ⟨rfl, Hst3.out.1⟩
set_option maxRecDepth 100000 in
set_option maxHeartbeats 3200000 in
theorem back_yes (c : Cal) (A B : Option Addr) (cw ci : Nat) (w : World) (hT : TabAt w) (hc : CallR w c A B) (hl : ¬ (50 : Int) < (c.words.length : Int)) (hm : ¬ (50 : Int) < (c.items.length : Int)) (h0 : mayC c = true) (hB : CalB c) :
    Calls Tryd.prog 5 #[.agg #[.int .i64 c.op, .int .i64 c.slot, .int .i64 c.a, .int .i64 c.b, .int .i64 c.c, .bool c.flag, .int .u64 (c.x : Int), .slice A c.words.length cw, .slice B c.items.length ci]] w
      fun e w' => e = .returned (.bool true) ∧ Below w.heap.size w w' := by
  have Hst0 := Lib.hid (St1.new (cw := cw) (ci := ci) hc)
  have HT := Lib.hid (hT.below hT.lt Hst0.out.1)
  clear hc hT
  obtain ⟨n, hn⟩ : ∃ n, (encC c).length = n := ⟨_, rfl⟩
  have Hn := Lib.hid hn
  have E0 := Lib.hid h0
  have EB := Lib.hid hB
  have El : Hid (c.words.length ≤ 9223372036854775807 ∧ c.items.length ≤ 9223372036854775807) := Lib.hid ⟨by omega, by omega⟩
  have En : Hid ((n : Int) = 2 + (c.words.length : Int) + (c.items.length : Int)) := Lib.hid (by have := encC_length c h0; omega)
  clear h0 hn hB
  go_enter Tryd.func5, Tryd.ntmps5
  go_wp2_with fail
  refine (alive_any _ HT.out).mono ?_
  rintro e w1 ⟨rfl, hb1⟩
  have Hst1 := Lib.hid (Hst0.out.step hb1)
  clear hb1 Hst0
  obtain ⟨c0, c1, c2, c3, c4, c5, c6, c7, c8⟩ := Hst1.out.cells
  go_wp2_with fail
  refine (enc_lit c _ rfl n Hn.out _ _ _ _ _ Hst1.out.r).mono ?_
  rintro e w2 ⟨Z, z, rfl, hz0, hz, hb2⟩
  have Hz0 := Lib.hid hz0
  have Hz := Lib.hid hz
  have Hst2 := Lib.hid (Hst1.out.step hb2)
  clear hb2 Hst1 hz hz0 c0 c1 c2 c3 c4 c5 c6 c7 c8
  obtain ⟨c0, c1, c2, c3, c4, c5, c6, c7, c8⟩ := Hst2.out.cells
  go_wp2_with fail
  refine (may_lit c true E0.out _ _ _ _ _ Hst2.out.r).mono ?_
  rintro e w3 ⟨rfl, hb3⟩
  have Hst3 := Lib.hid (Hst2.out.step hb3)
  have Hz3 := Lib.hid (Hz.out.below hb3)
  clear hb3 Hst2 Hz c0 c1 c2 c3 c4 c5 c6 c7 c8
  go_wp2_with fail
  refine (dec_lit c E0.out EB.out n Hn.out _ _ Hz0.out _ Hz3.out El.out.2 El.out.1).mono ?_
  rintro e w4 ⟨D, dw, E, di, rfl, hd, hb4⟩
  have Hst4 := Lib.hid (Hst3.out.step hb4)
  have Hd := Lib.hid hd
  clear hb4 hd Hst3 Hz3
  have Hst5 := Lib.hid (Hst4.out.alloc (.cells #[.int .i64 c.op, .int .i64 c.slot, .int .i64 c.a, .int .i64 c.b, .int .i64 c.c, .bool c.flag, .int .u64 (c.x : Int), .slice D c.words.length dw, .slice E c.items.length di] 26))
  have Hd5 := Lib.hid (CAt.new (cw := dw) (ci := di) Hd.out)
  obtain ⟨c0, c1, c2, c3, c4, c5, c6, c7, c8⟩ := Hst5.out.cells
  obtain ⟨d0, d1, d2, d3, d4, d5, d6, d7, d8⟩ := Hd5.out.cells
  clear Hst4 Hd
  go_wp2_with fail
  refine (same_lit c c true ((sameC_iff c c).2 rfl) _ _ _ _ _ _ _ _ _ Hst5.out.r Hd5.out.2).mono ?_
  rintro e w6 ⟨rfl, hb6⟩
  have Hst6 := Lib.hid (Hst5.out.step hb6)
  clear hb6 Hst5 Hd5 d0 d1 d2 d3 d4 d5 d6 d7 d8 c0 c1 c2 c3 c4 c5 c6 c7 c8
  obtain ⟨c0, c1, c2, c3, c4, c5, c6, c7, c8⟩ := Hst6.out.cells
  go_wp2_with fail
  go_ret
  exact ⟨ret_bool (by have := En.out; simp; omega), Hst6.out.1⟩

theorem back_any (c : Cal) (A B : Option Addr) (cw ci : Nat) (w : World) (hT : TabAt w) (hc : CallR w c A B) (hB : CalB c) :
    Calls Tryd.prog 5 #[.agg #[.int .i64 c.op, .int .i64 c.slot, .int .i64 c.a, .int .i64 c.b, .int .i64 c.c, .bool c.flag, .int .u64 (c.x : Int), .slice A c.words.length cw, .slice B c.items.length ci]] w
      fun e w' => e = .returned (.bool true) ∧ Below w.heap.size w w' := by
  by_cases hl : (50 : Int) < (c.words.length : Int)
  · exact back_long1 c A B cw ci w hT hc hl
  by_cases hm : (50 : Int) < (c.items.length : Int)
  · exact back_long2 c A B cw ci w hT hc hl hm
  cases h0 : mayC c
  · exact back_no c A B cw ci w hT hc hl hm h0
  · exact back_yes c A B cw ci w hT hc hl hm h0 hB
end Go.Proofs.YtmjkljgccaipoaaDoor
