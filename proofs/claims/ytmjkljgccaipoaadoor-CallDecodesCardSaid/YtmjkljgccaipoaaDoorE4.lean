/- The walk of CallOnly: of words, true. Condition: the table of Asks holds what its text says. -/
import Derived.Test.YtmjkljgccaipoaaDoorE3
namespace Go.Proofs.YtmjkljgccaipoaaDoor
open Go.RowKit

/-- words are read, and the way here -/
def StW (w W : World) (A : Option Addr) (l : List Nat) : Prop := Below w.heap.size w W ∧ SlR W A (u64s l)
theorem StW.step {w W W' : World} {A : Option Addr} {l : List Nat} (h : StW w W A l) (hb : Below W.heap.size W W') : StW w W' A l := ⟨h.1.trans (hb.mono h.1.size), h.2.below hb⟩
theorem StW.alloc {w W : World} {A : Option Addr} {l : List Nat} (h : StW w W A l) (o : Obj) : StW w (W.alloc o) A l := h.step ((Below.refl _ _).alloc (Nat.le_refl _) o)
theorem StW.drew {w W : World} {A : Option Addr} {l : List Nat} (h : StW w W A l) : StW w W.drew A l := h.step (Below.refl _ _).drew

theorem dec_none (l : List Nat) (hd : decC l = none) (n : Nat) (hn : l.length = n) (A : Option Addr) (cap : Nat) (hk : n ≤ cap) (hl : n ≤ 140737488351232) (hx : ∀ x ∈ l, x < 18446744073709551616) (w : World) (h : SlR w A (u64s l)) :
    Calls Tryd.prog 17 #[.slice A n cap] w
      fun e w' => ∃ (D : Option Addr) (dw : Nat) (E : Option Addr) (di : Nat), e = .returned (.tuple #[.agg #[.int .i64 0, .int .i64 0, .int .i64 0, .int .i64 0, .int .i64 0, .bool false, .int .u64 0, .slice D 0 dw, .slice E 0 di], .int .i64 1]) ∧ Below w.heap.size w w' := by
  subst hn
  refine (decode_any l A cap w h hx hl hk).mono fun e w' hp => ?_
  obtain ⟨A', cw, B', ci, he, _, _, h3⟩ := hp
  rw [show decR l = (zeroC, 1) by simp [decR, hd]] at he
  exact ⟨A', cw, B', ci, he, h3⟩
theorem dec_some (l : List Nat) (c : Cal) (hd : decC l = some c) (n : Nat) (hn : l.length = n) (A : Option Addr) (cap : Nat) (hk : n ≤ cap) (hl : n ≤ 140737488351232) (hx : ∀ x ∈ l, x < 18446744073709551616) (w : World) (h : SlR w A (u64s l)) :
    Calls Tryd.prog 17 #[.slice A n cap] w
      fun e w' => ∃ (D : Option Addr) (dw : Nat) (E : Option Addr) (di : Nat), e = .returned (.tuple #[.agg #[.int .i64 c.op, .int .i64 c.slot, .int .i64 c.a, .int .i64 c.b, .int .i64 c.c, .bool c.flag, .int .u64 (c.x : Int), .slice D c.words.length dw, .slice E c.items.length di], .int .i64 0]) ∧ CallR w' c D E ∧ Below w.heap.size w w' := by
  subst hn
  have hb := ((mayC_iff c).1 (encC_decC l c hd).1).2
  refine (decode_any l A cap w h hx hl hk).mono fun e w' hp => ?_
  obtain ⟨A', cw, B', ci, he, h1, h2, h3⟩ := hp
  rw [show decR l = (c, 0) by simp [decR, hd]] at he h1 h2
  exact ⟨A', cw, B', ci, he, ⟨h1, h2, by omega, by omega⟩, h3⟩
theorem same00 (w : World) (D E : Option Addr) (dw di : Nat) : Calls Tryd.prog 19 #[.agg #[.int .i64 0, .int .i64 0, .int .i64 0, .int .i64 0, .int .i64 0, .bool false, .int .u64 0, .slice D 0 dw, .slice E 0 di], .agg #[.int .i64 0, .int .i64 0, .int .i64 0, .int .i64 0, .int .i64 0, .bool false, .int .u64 0, .slice none 0 0, .slice none 0 0]] w fun e w' => e = .returned (.bool true) ∧ Below w.heap.size w w' := by
  have h := same21_any zeroC zeroC D none E none dw 0 di 0 w (SlR.nil _ _) (SlR.nil _ _) (SlR.nil _ _) (SlR.nil _ _) (by decide) (by decide) (by decide) (by decide)
  rw [(sameC_iff _ _).2 rfl] at h
  exact h
theorem zcells (W : World) (D E : Option Addr) (dw di : Nat) (V : World) (hV : V = W.alloc (.cells #[.int .i64 0, .int .i64 0, .int .i64 0, .int .i64 0, .int .i64 0, .bool false, .int .u64 0, .slice D 0 dw, .slice E 0 di] 26)) :
    V.cell? ⟨W.heap.size, 0, none⟩ = some (.int .i64 0) ∧ V.cell? ⟨W.heap.size, 1, none⟩ = some (.int .i64 0) ∧ V.cell? ⟨W.heap.size, 2, none⟩ = some (.int .i64 0) ∧ V.cell? ⟨W.heap.size, 3, none⟩ = some (.int .i64 0) ∧ V.cell? ⟨W.heap.size, 4, none⟩ = some (.int .i64 0) ∧ V.cell? ⟨W.heap.size, 5, none⟩ = some (.bool false) ∧ V.cell? ⟨W.heap.size, 6, none⟩ = some (.int .u64 0) ∧ V.cell? ⟨W.heap.size, 7, none⟩ = some (.slice D 0 dw) ∧ V.cell? ⟨W.heap.size, 8, none⟩ = some (.slice E 0 di) := by
  subst hV
  have h := heap_alloc_new W (.cells #[.int .i64 0, .int .i64 0, .int .i64 0, .int .i64 0, .int .i64 0, .bool false, .int .u64 0, .slice D 0 dw, .slice E 0 di] 26)
  exact ⟨cell_of_row _ _ 0 _ _ _ h, cell_of_row _ _ 1 _ _ _ h, cell_of_row _ _ 2 _ _ _ h, cell_of_row _ _ 3 _ _ _ h, cell_of_row _ _ 4 _ _ _ h, cell_of_row _ _ 5 _ _ _ h, cell_of_row _ _ 6 _ _ _ h, cell_of_row _ _ 7 _ _ _ h, cell_of_row _ _ 8 _ _ _ h⟩

set_option maxRecDepth 100000 in
set_option maxHeartbeats 3200000 in
theorem only_long (l : List Nat) (n : Nat) (A : Option Addr) (cap : Nat) (w : World) (hT : TabAt w) (h : SlR w A (u64s l)) (hl : (50 : Int) < (n : Int)) :
    Calls Tryd.prog 6 #[.slice A n cap] w fun e w' => e = .returned (.bool true) ∧ Below w.heap.size w w' := by
  have Hst0 : Hid (StW w w A l) := Lib.hid ⟨Below.refl _ _, h⟩
  have HT := Lib.hid hT
  clear h hT
  go_enter Tryd.func6, Tryd.ntmps6
  go_wp2_with fail
  refine (alive_any _ HT.out).mono ?_
  rintro e w1 ⟨rfl, hb1⟩
  have Hst1 := Lib.hid (Hst0.out.step hb1)
  clear hb1 Hst0
  go_wp2_with fail
  go_ret
  exact ⟨rfl, Hst1.out.1⟩

set_option maxRecDepth 100000 in
set_option maxHeartbeats 3200000 in
theorem only_none (l : List Nat) (n : Nat) (hn : l.length = n) (A : Option Addr) (cap : Nat) (w : World) (hT : TabAt w) (h : SlR w A (u64s l)) (hl : ¬ (50 : Int) < (n : Int)) (hk : n ≤ cap) (hx : ∀ x ∈ l, x < 18446744073709551616) (hd : decC l = none) :
    Calls Tryd.prog 6 #[.slice A n cap] w fun e w' => e = .returned (.bool true) ∧ Below w.heap.size w w' := by
  have Hst0 : Hid (StW w w A l) := Lib.hid ⟨Below.refl _ _, h⟩
  have HT := Lib.hid hT
  have Hn := Lib.hid hn
  have Hk := Lib.hid hk
  have Hx := Lib.hid hx
  have Hd := Lib.hid hd
  have H5 : Hid (n ≤ 140737488351232) := Lib.hid (by omega)
  clear h hT hn hk hx hd
  go_enter Tryd.func6, Tryd.ntmps6
  go_wp2_with fail
  refine (alive_any _ HT.out).mono ?_
  rintro e w1 ⟨rfl, hb1⟩
  have Hst1 := Lib.hid (Hst0.out.step hb1)
  clear hb1 Hst0
  go_wp2_with fail
  refine (dec_none l Hd.out n Hn.out _ _ Hk.out H5.out Hx.out _ Hst1.out.2).mono ?_
  rintro e w2 ⟨D, dw, E, di, rfl, hb2⟩
  have Hst2 := Lib.hid (Hst1.out.step hb2)
  clear hb2 Hst1
  have Hst3 := Lib.hid (Hst2.out.alloc (.cells #[.int .i64 0, .int .i64 0, .int .i64 0, .int .i64 0, .int .i64 0, .bool false, .int .u64 0, .slice D 0 dw, .slice E 0 di] 26))
  obtain ⟨d0, d1, d2, d3, d4, d5, d6, d7, d8⟩ := zcells w2 D E dw di _ rfl
  clear Hst2
  go_wp2_with fail
  refine (same00 _ _ _ _ _).mono ?_
  rintro e w4 ⟨rfl, hb4⟩
  have Hst4 := Lib.hid (Hst3.out.step hb4)
  clear hb4 Hst3 d0 d1 d2 d3 d4 d5 d6 d7 d8
  go_wp2_with fail
  go_ret
  exact ⟨ret_bool (by simp), Hst4.out.1⟩

set_option maxRecDepth 100000 in
set_option maxHeartbeats 3200000 in
theorem only_some (l : List Nat) (c : Cal) (n : Nat) (hn : l.length = n) (A : Option Addr) (cap : Nat) (w : World) (hT : TabAt w) (h : SlR w A (u64s l)) (hl : ¬ (50 : Int) < (n : Int)) (hk : n ≤ cap) (hx : ∀ x ∈ l, x < 18446744073709551616) (hd : decC l = some c) :
    Calls Tryd.prog 6 #[.slice A n cap] w fun e w' => e = .returned (.bool true) ∧ Below w.heap.size w w' := by
  have Hst0 : Hid (StW w w A l) := Lib.hid ⟨Below.refl _ _, h⟩
  have HT := Lib.hid hT
  have Hn := Lib.hid hn
  have Hk := Lib.hid hk
  have Hx := Lib.hid hx
  have Hd := Lib.hid hd
  have Hm := Lib.hid (encC_decC l c hd)
  have H5 : Hid (n ≤ 140737488351232 ∧ n ≤ 9223372036854775807) := Lib.hid ⟨by omega, by omega⟩
  clear h hT hn hk hx hd
  go_enter Tryd.func6, Tryd.ntmps6
  go_wp2_with fail
  refine (alive_any _ HT.out).mono ?_
  rintro e w1 ⟨rfl, hb1⟩
  have Hst1 := Lib.hid (Hst0.out.step hb1)
  clear hb1 Hst0
  go_wp2_with fail
  refine (dec_some l c Hd.out n Hn.out _ _ Hk.out H5.out.1 Hx.out _ Hst1.out.2).mono ?_
  rintro e w2 ⟨D, dw, E, di, rfl, hd2, hb2⟩
  have Hst2 := Lib.hid (Hst1.out.step hb2)
  clear hb2 Hst1
  have Hst3 := Lib.hid (Hst2.out.alloc (.cells #[.int .i64 c.op, .int .i64 c.slot, .int .i64 c.a, .int .i64 c.b, .int .i64 c.c, .bool c.flag, .int .u64 (c.x : Int), .slice D c.words.length dw, .slice E c.items.length di] 26))
  have Hd3 := Lib.hid (CAt.new (cw := dw) (ci := di) hd2)
  obtain ⟨d0, d1, d2, d3, d4, d5, d6, d7, d8⟩ := Hd3.out.cells
  clear Hst2 hd2
  go_wp2_with fail
  refine (may_lit c true Hm.out.1 _ _ _ _ _ Hd3.out.2).mono ?_
  rintro e w4 ⟨rfl, hb4⟩
  have Hst4 := Lib.hid (Hst3.out.step hb4)
  have Hd4 := Lib.hid (Hd3.out.below hb4)
  clear hb4 Hst3 Hd3 d0 d1 d2 d3 d4 d5 d6 d7 d8
  obtain ⟨d0, d1, d2, d3, d4, d5, d6, d7, d8⟩ := Hd4.out.cells
  go_wp2_with fail
  refine (enc_lit c l Hm.out.2 n Hn.out _ _ _ _ _ Hd4.out.2).mono ?_
  rintro e w5 ⟨Z, z, rfl, _, hz, hb5⟩
  have Hst5 := Lib.hid (Hst4.out.step hb5)
  have Hz := Lib.hid hz
  clear hb5 hz Hst4 Hd4 d0 d1 d2 d3 d4 d5 d6 d7 d8
  go_wp2_with fail
  refine (words_lit l l n n Hn.out Hn.out true (by simp) _ _ _ _ _ Hz.out Hst5.out.2 H5.out.2 H5.out.2).mono ?_
  rintro e w6 ⟨rfl, hb6⟩
  have Hst6 := Lib.hid (Hst5.out.step hb6)
  clear hb6 Hst5 Hz
  go_wp2_with fail
  go_ret
  exact ⟨ret_bool (by simp), Hst6.out.1⟩

theorem only_any (l : List Nat) (A : Option Addr) (cap : Nat) (w : World) (hT : TabAt w) (h : SlR w A (u64s l)) (hk : l.length ≤ cap) (hx : ∀ x ∈ l, x < 18446744073709551616) :
    Calls Tryd.prog 6 #[.slice A l.length cap] w fun e w' => e = .returned (.bool true) ∧ Below w.heap.size w w' := by
  by_cases hl : (50 : Int) < (l.length : Int)
  · exact only_long l l.length A cap w hT h hl
  cases hd : decC l with
  | none => exact only_none l l.length rfl A cap w hT h hl hk hx hd
  | some c => exact only_some l c l.length rfl A cap w hT h hl hk hx hd
end Go.Proofs.YtmjkljgccaipoaaDoor
