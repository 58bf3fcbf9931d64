/- The walk of CallDecodes: of words, true. Condition: the table of Asks holds what its text says. -/
import Derived.Test.YtmjkljgccaipoaaDoorG7
import Derived.Test.YtmjkljgccaipoaaDoorE4
namespace Go.Proofs.YtmjkljgccaipoaaDoor
open Go.RowKit

theorem rdec_none (l : List Nat) (hd : decC l = none) (n : Nat) (hn : l.length = n) (A : Option Addr) (cap : Nat) (hx : ∀ x ∈ l, x < 18446744073709551616) (w : World) (h : SlR w A (u64s l)) :
    Calls Tryd.prog 18 #[.slice A n cap] w
      fun e w' => ∃ (D : Option Addr) (dw : Nat) (E : Option Addr) (di : Nat), e = .returned (.tuple #[.agg #[.int .i64 0, .int .i64 0, .int .i64 0, .int .i64 0, .int .i64 0, .bool false, .int .u64 0, .slice D 0 dw, .slice E 0 di], .int .i64 1]) ∧ Below w.heap.size w w' := by
  subst hn
  refine (ref_any l A cap w h hx).mono fun e w' hp => ?_
  obtain ⟨A', cw, B', ci, he, _, _, h3⟩ := hp
  rw [show decR l = (zeroC, 1) by simp [decR, hd]] at he
  exact ⟨A', cw, B', ci, he, h3⟩
theorem rdec_some (l : List Nat) (c : Cal) (hd : decC l = some c) (n : Nat) (hn : l.length = n) (A : Option Addr) (cap : Nat) (hx : ∀ x ∈ l, x < 18446744073709551616) (w : World) (h : SlR w A (u64s l)) :
    Calls Tryd.prog 18 #[.slice A n cap] w
      fun e w' => ∃ (D : Option Addr) (dw : Nat) (E : Option Addr) (di : Nat), e = .returned (.tuple #[.agg #[.int .i64 c.op, .int .i64 c.slot, .int .i64 c.a, .int .i64 c.b, .int .i64 c.c, .bool c.flag, .int .u64 (c.x : Int), .slice D c.words.length dw, .slice E c.items.length di], .int .i64 0]) ∧ CallR w' c D E ∧ Below w.heap.size w w' := by
  subst hn
  have hb := ((mayC_iff c).1 (encC_decC l c hd).1).2
  refine (ref_any l A cap w h hx).mono fun e w' hp => ?_
  obtain ⟨A', cw, B', ci, he, h1, h2, h3⟩ := hp
  rw [show decR l = (c, 0) by simp [decR, hd]] at he h1 h2
  exact ⟨A', cw, B', ci, he, ⟨h1, h2, by omega, by omega⟩, h3⟩
theorem same000 (w : World) (D E D' E' : Option Addr) (dw di dw' di' : Nat) : Calls Tryd.prog 19 #[.agg #[.int .i64 0, .int .i64 0, .int .i64 0, .int .i64 0, .int .i64 0, .bool false, .int .u64 0, .slice D 0 dw, .slice E 0 di], .agg #[.int .i64 0, .int .i64 0, .int .i64 0, .int .i64 0, .int .i64 0, .bool false, .int .u64 0, .slice D' 0 dw', .slice E' 0 di']] w fun e w' => e = .returned (.bool true) ∧ Below w.heap.size w w' := by
  have h := same21_any zeroC zeroC D D' E E' dw dw' di di' w (SlR.nil _ _) (SlR.nil _ _) (SlR.nil _ _) (SlR.nil _ _) (by decide) (by decide) (by decide) (by decide)
  rw [(sameC_iff _ _).2 rfl] at h
  exact h
/-- a call of zeros lies at a block -/
def ZAt (W : World) (g : Nat) (D : Option Addr) (dw : Nat) (E : Option Addr) (di : Nat) : Prop := W.heap[g]? = some (.cells #[.int .i64 0, .int .i64 0, .int .i64 0, .int .i64 0, .int .i64 0, .bool false, .int .u64 0, .slice D 0 dw, .slice E 0 di] 26 (0, 0))
theorem ZAt.below {W W' : World} {g : Nat} {D E : Option Addr} {dw di : Nat} (h : ZAt W g D dw E di) (hb : Below W.heap.size W W') : ZAt W' g D dw E di := (hb.block g (heap_lt7 h)).trans h
theorem ZAt.alloc {W : World} {g : Nat} {D E : Option Addr} {dw di : Nat} (h : ZAt W g D dw E di) (o : Obj) : ZAt (W.alloc o) g D dw E di := h.below ((Below.refl _ _).alloc (Nat.le_refl _) o)
theorem ZAt.new (W : World) (D E : Option Addr) (dw di : Nat) : ZAt (W.alloc (.cells #[.int .i64 0, .int .i64 0, .int .i64 0, .int .i64 0, .int .i64 0, .bool false, .int .u64 0, .slice D 0 dw, .slice E 0 di] 26)) W.heap.size D dw E di := heap_alloc_new W _
theorem ZAt.cells {W : World} {g : Nat} {D E : Option Addr} {dw di : Nat} (h : ZAt W g D dw E di) :
    W.cell? ⟨g, 0, none⟩ = some (.int .i64 0) ∧ W.cell? ⟨g, 1, none⟩ = some (.int .i64 0) ∧ W.cell? ⟨g, 2, none⟩ = some (.int .i64 0) ∧ W.cell? ⟨g, 3, none⟩ = some (.int .i64 0) ∧ W.cell? ⟨g, 4, none⟩ = some (.int .i64 0) ∧ W.cell? ⟨g, 5, none⟩ = some (.bool false) ∧ W.cell? ⟨g, 6, none⟩ = some (.int .u64 0) ∧ W.cell? ⟨g, 7, none⟩ = some (.slice D 0 dw) ∧ W.cell? ⟨g, 8, none⟩ = some (.slice E 0 di) :=
  ⟨cell_of_row _ _ 0 _ _ _ h, cell_of_row _ _ 1 _ _ _ h, cell_of_row _ _ 2 _ _ _ h, cell_of_row _ _ 3 _ _ _ h, cell_of_row _ _ 4 _ _ _ h, cell_of_row _ _ 5 _ _ _ h, cell_of_row _ _ 6 _ _ _ h, cell_of_row _ _ 7 _ _ _ h, cell_of_row _ _ 8 _ _ _ h⟩

set_option maxRecDepth 100000 in
set_option maxHeartbeats 3200000 in
theorem decodes_long (l : List Nat) (n : Nat) (A : Option Addr) (cap : Nat) (w : World) (hT : TabAt w) (h : SlR w A (u64s l)) (hl : (50 : Int) < (n : Int)) :
    Calls Tryd.prog 4 #[.slice A n cap] w fun e w' => e = .returned (.bool true) ∧ Below w.heap.size w w' := by
  have Hst0 : Hid (StW w w A l) := Lib.hid ⟨Below.refl _ _, h⟩
  have HT := Lib.hid hT
  clear h hT
  go_enter Tryd.func4, Tryd.ntmps4
  go_wp2_with fail
  refine (alive_any _ HT.out).mono ?_
  rintro e w1 ⟨rfl, hb1⟩
  have Hst1 := Lib.hid (Hst0.out.step hb1)
  clear hb1 Hst0
  go_wp2_with fail
  go_ret
  exact ⟨rfl, Hst1.out.1⟩

set_option maxRecDepth 100000 in
set_option maxHeartbeats 3200000 in
theorem decodes_none (l : List Nat) (n : Nat) (hn : l.length = n) (A : Option Addr) (cap : Nat) (w : World) (hT : TabAt w) (h : SlR w A (u64s l)) (hl : ¬ (50 : Int) < (n : Int)) (hk : n ≤ cap) (hx : ∀ x ∈ l, x < 18446744073709551616) (hd : decC l = none) :
    Calls Tryd.prog 4 #[.slice A n cap] w fun e w' => e = .returned (.bool true) ∧ Below w.heap.size w w' := by
  have Hst0 : Hid (StW w w A l) := Lib.hid ⟨Below.refl _ _, h⟩
  have HT := Lib.hid hT
  have Hn := Lib.hid hn
  have Hk := Lib.hid hk
  have Hx := Lib.hid hx
  have Hd := Lib.hid hd
  have H5 : Hid (n ≤ 140737488351232) := Lib.hid (by omega)
  clear h hT hn hk hx hd
  go_enter Tryd.func4, Tryd.ntmps4
  go_wp2_with fail
  refine (alive_any _ HT.out).mono ?_
  rintro e w1 ⟨rfl, hb1⟩
  have Hst1 := Lib.hid (Hst0.out.step hb1)
  clear hb1 Hst0
  go_wp2_with fail
  refine (dec_none l Hd.out n Hn.out _ _ Hk.out H5.out Hx.out _ Hst1.out.2).mono ?_
  rintro e w2 ⟨D, dw, E, di, rfl, hb2⟩
  have Hst2 := Lib.hid (Hst1.out.step hb2)
  clear hb2 Hst1
  have Hst3 := Lib.hid (Hst2.out.alloc (.cells #[.int .i64 0, .int .i64 0, .int .i64 0, .int .i64 0, .int .i64 0, .bool false, .int .u64 0, .slice D 0 dw, .slice E 0 di] 26))
  have Hz3 := Lib.hid (ZAt.new w2 D E dw di)
  clear Hst2
  go_wp2_with fail
  refine (rdec_none l Hd.out n Hn.out _ _ Hx.out _ Hst3.out.2).mono ?_
  rintro e w4 ⟨D', dw', E', di', rfl, hb4⟩
  have Hst4 := Lib.hid (Hst3.out.step hb4)
  have Hz4 := Lib.hid (Hz3.out.below hb4)
  clear hb4 Hst3 Hz3
  have Hst5 := Lib.hid (Hst4.out.alloc (.cells #[.int .i64 0, .int .i64 0, .int .i64 0, .int .i64 0, .int .i64 0, .bool false, .int .u64 0, .slice D' 0 dw', .slice E' 0 di'] 26))
  have Hz5 := Lib.hid (Hz4.out.alloc (.cells #[.int .i64 0, .int .i64 0, .int .i64 0, .int .i64 0, .int .i64 0, .bool false, .int .u64 0, .slice D' 0 dw', .slice E' 0 di'] 26))
  have Hy5 := Lib.hid (ZAt.new w4 D' E' dw' di')
  obtain ⟨c0, c1, c2, c3, c4, c5, c6, c7, c8⟩ := Hz5.out.cells
  obtain ⟨d0, d1, d2, d3, d4, d5, d6, d7, d8⟩ := Hy5.out.cells
  clear Hst4 Hz4
  go_wp2_with fail
  refine (same000 _ _ _ _ _ _ _ _ _).mono ?_
  rintro e w6 ⟨rfl, hb6⟩
  have Hst6 := Lib.hid (Hst5.out.step hb6)
  clear hb6 Hst5 Hz5 Hy5 c0 c1 c2 c3 c4 c5 c6 c7 c8 d0 d1 d2 d3 d4 d5 d6 d7 d8
  go_wp2_with fail
  go_ret
  exact ⟨ret_bool (by simp), Hst6.out.1⟩

set_option maxRecDepth 100000 in
set_option maxHeartbeats 3200000 in
theorem decodes_some (l : List Nat) (c : Cal) (n : Nat) (hn : l.length = n) (A : Option Addr) (cap : Nat) (w : World) (hT : TabAt w) (h : SlR w A (u64s l)) (hl : ¬ (50 : Int) < (n : Int)) (hk : n ≤ cap) (hx : ∀ x ∈ l, x < 18446744073709551616) (hd : decC l = some c) :
    Calls Tryd.prog 4 #[.slice A n cap] w fun e w' => e = .returned (.bool true) ∧ Below w.heap.size w w' := by
  have Hst0 : Hid (StW w w A l) := Lib.hid ⟨Below.refl _ _, h⟩
  have HT := Lib.hid hT
  have Hn := Lib.hid hn
  have Hk := Lib.hid hk
  have Hx := Lib.hid hx
  have Hd := Lib.hid hd
  have H5 : Hid (n ≤ 140737488351232) := Lib.hid (by omega)
  clear h hT hn hk hx hd
  go_enter Tryd.func4, Tryd.ntmps4
  go_wp2_with fail
  refine (alive_any _ HT.out).mono ?_
  rintro e w1 ⟨rfl, hb1⟩
  have Hst1 := Lib.hid (Hst0.out.step hb1)
  clear hb1 Hst0
  go_wp2_with fail
  refine (dec_some l c Hd.out n Hn.out _ _ Hk.out H5.out Hx.out _ Hst1.out.2).mono ?_
  rintro e w2 ⟨D, dw, E, di, rfl, hd2, hb2⟩
  have Hst2 := Lib.hid (Hst1.out.step hb2)
  clear hb2 Hst1
  have Hst3 := Lib.hid (Hst2.out.alloc (.cells #[.int .i64 c.op, .int .i64 c.slot, .int .i64 c.a, .int .i64 c.b, .int .i64 c.c, .bool c.flag, .int .u64 (c.x : Int), .slice D c.words.length dw, .slice E c.items.length di] 26))
  have Hz3 := Lib.hid (CAt.new (cw := dw) (ci := di) hd2)
  clear Hst2 hd2
  go_wp2_with fail
  refine (rdec_some l c Hd.out n Hn.out _ _ Hx.out _ Hst3.out.2).mono ?_
  rintro e w4 ⟨D', dw', E', di', rfl, hd4, hb4⟩
  have Hst4 := Lib.hid (Hst3.out.step hb4)
  have Hz4 := Lib.hid (Hz3.out.below hb4)
  clear hb4 Hst3 Hz3
  have Hst5 := Lib.hid (Hst4.out.alloc (.cells #[.int .i64 c.op, .int .i64 c.slot, .int .i64 c.a, .int .i64 c.b, .int .i64 c.c, .bool c.flag, .int .u64 (c.x : Int), .slice D' c.words.length dw', .slice E' c.items.length di'] 26))
  have Hz5 := Lib.hid (Hz4.out.alloc (.cells #[.int .i64 c.op, .int .i64 c.slot, .int .i64 c.a, .int .i64 c.b, .int .i64 c.c, .bool c.flag, .int .u64 (c.x : Int), .slice D' c.words.length dw', .slice E' c.items.length di'] 26))
  have Hy5 := Lib.hid (CAt.new (cw := dw') (ci := di') hd4)
  obtain ⟨c0, c1, c2, c3, c4, c5, c6, c7, c8⟩ := Hz5.out.cells
  obtain ⟨d0, d1, d2, d3, d4, d5, d6, d7, d8⟩ := Hy5.out.cells
  clear Hst4 Hz4 hd4
  go_wp2_with fail
  refine (same_lit c c true ((sameC_iff c c).2 rfl) _ _ _ _ _ _ _ _ _ Hz5.out.2 Hy5.out.2).mono ?_
  rintro e w6 ⟨rfl, hb6⟩
  have Hst6 := Lib.hid (Hst5.out.step hb6)
  clear hb6 Hst5 Hz5 Hy5 c0 c1 c2 c3 c4 c5 c6 c7 c8 d0 d1 d2 d3 d4 d5 d6 d7 d8
  go_wp2_with fail
  go_ret
  exact ⟨ret_bool (by simp), Hst6.out.1⟩

theorem decodes_any (l : List Nat) (A : Option Addr) (cap : Nat) (w : World) (hT : TabAt w) (h : SlR w A (u64s l)) (hk : l.length ≤ cap) (hx : ∀ x ∈ l, x < 18446744073709551616) :
    Calls Tryd.prog 4 #[.slice A l.length cap] w fun e w' => e = .returned (.bool true) ∧ Below w.heap.size w w' := by
  by_cases hl : (50 : Int) < (l.length : Int)
  · exact decodes_long l l.length A cap w hT h hl
  cases hd : decC l with
  | none => exact decodes_none l l.length rfl A cap w hT h hl hk hx hd
  | some c => exact decodes_some l c l.length rfl A cap w hT h hl hk hx hd
end Go.Proofs.YtmjkljgccaipoaaDoor
