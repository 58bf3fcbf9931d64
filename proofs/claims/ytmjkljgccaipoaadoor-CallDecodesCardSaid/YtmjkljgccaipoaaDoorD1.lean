/- The contract of alive: the document's examples hold. Condition: the table of Asks holds what its text says. -/
import Derived.Test.YtmjkljgccaipoaaDoorB2
namespace Go.Proofs.YtmjkljgccaipoaaDoor
open Go.RowKit

def litC (op c : Int) : Cal := ⟨op, 0, 0, 0, c, false, 0, [], []⟩

theorem enc11 (w : World) : Calls Tryd.prog 15 #[.agg #[.int .i64 11, .int .i64 0, .int .i64 0, .int .i64 0, .int .i64 5, .bool false, .int .u64 0, .slice none 0 0, .slice none 0 0]] w (EncPost w [5497558141696, 0]) := by
  have h := encode_any (litC 11 5) none none 0 0 w (SlR.nil _ _) (SlR.nil _ _) (by decide) (by decide)
  rw [show encC (litC 11 5) = [5497558141696, 0] by decide] at h
  exact h
theorem enc13 (w : World) : Calls Tryd.prog 15 #[.agg #[.int .i64 13, .int .i64 0, .int .i64 0, .int .i64 0, .int .i64 0, .bool false, .int .u64 0, .slice none 0 0, .slice none 0 0]] w (EncPost w [3328, 0]) := by
  have h := encode_any (litC 13 0) none none 0 0 w (SlR.nil _ _) (SlR.nil _ _) (by decide) (by decide)
  rw [show encC (litC 13 0) = [3328, 0] by decide] at h
  exact h
theorem may1 (w : World) : Calls Tryd.prog 12 #[.agg #[.int .i64 1, .int .i64 0, .int .i64 0, .int .i64 0, .int .i64 0, .bool false, .int .u64 0, .slice none 0 0, .slice none 0 0]] w fun e w' => e = .returned (.bool true) ∧ Below w.heap.size w w' := by
  have h := may_any (litC 1 0) none none 0 0 w (SlR.nil _ _) (by decide) (by decide)
  rw [show mayC (litC 1 0) = true by decide] at h
  exact h
theorem may0 (w : World) : Calls Tryd.prog 12 #[.agg #[.int .i64 0, .int .i64 0, .int .i64 0, .int .i64 0, .int .i64 0, .bool false, .int .u64 0, .slice none 0 0, .slice none 0 0]] w fun e w' => e = .returned (.bool false) ∧ Below w.heap.size w w' := by
  have h := may_any (litC 0 0) none none 0 0 w (SlR.nil _ _) (by decide) (by decide)
  rw [show mayC (litC 0 0) = false by decide] at h
  exact h
def DecLit (w : World) (op k : Int) (e : Ending) (w' : World) : Prop := ∃ A cw B ci, e = .returned (.tuple #[.agg #[.int .i64 op, .int .i64 0, .int .i64 0, .int .i64 0, .int .i64 0, .bool false, .int .u64 0, .slice A 0 cw, .slice B 0 ci], .int .i64 k]) ∧ Below w.heap.size w w'
theorem dec2 (w : World) (A : Option Addr) (hA : SlR w A (u64s [3328, 0])) : Calls Tryd.prog 17 #[.slice A 2 2] w (DecLit w 13 0) := by
  have h := decode_good [3328, 0] (litC 13 0) (by rfl) A 2 w hA (by decide) (by decide) (by decide)
  refine h.mono fun e w' hp => ?_
  obtain ⟨A', cw, B', ci, he, _, _, hb⟩ := hp
  rw [show decR [3328, 0] = (litC 13 0, 0) by rfl] at he
  exact ⟨A', cw, B', ci, he, hb⟩
theorem dec1 (w : World) (A : Option Addr) (_ : SlR w A (u64s [3328])) : Calls Tryd.prog 17 #[.slice A 1 1] w (DecLit w 0 1) := by
  have h := decode_short [3328] A 1 w (by decide)
  refine h.mono fun e w' hp => ?_
  obtain ⟨A', cw, B', ci, he, _, _, hb⟩ := hp
  rw [show decR [3328] = (zeroC, 1) by rfl] at he
  exact ⟨A', cw, B', ci, he, hb⟩
theorem ask10 (w : World) (hT : TabAt w) : Calls Tryd.prog 20 #[.int .i64 10] w fun e w' => e = .returned (.tuple #[.int .i64 4, .int .i64 1, .bool true]) ∧ Below w.heap.size w w' :=
  (asks_any 10 w hT).mono fun _ _ h => ⟨h.1, h.2⟩
theorem ask11 (w : World) (hT : TabAt w) : Calls Tryd.prog 20 #[.int .i64 11] w fun e w' => e = .returned (.tuple #[.int .i64 0, .int .i64 0, .bool false]) ∧ Below w.heap.size w w' :=
  (asks_any 11 w hT).mono fun _ _ h => ⟨h.1, h.2⟩
theorem words2 (w : World) (l : List Nat) (hl : l.length = 2) (A B : Option Addr) (ca cb : Nat) (hA : SlR w A (u64s l)) (hB : SlR w B (u64s l)) : Calls Tryd.prog 14 #[.slice A 2 ca, .slice B 2 cb] w fun e w' => e = .returned (.bool true) ∧ Below w.heap.size w w' := by
  have h := words_any l l A B ca cb w hA hB (by omega) (by omega)
  rw [hl, show eqL l l = true by simp [eqL]] at h
  exact h
theorem same13 (w : World) (A B : Option Addr) (cw ci : Nat) : Calls Tryd.prog 19 #[.agg #[.int .i64 13, .int .i64 0, .int .i64 0, .int .i64 0, .int .i64 0, .bool false, .int .u64 0, .slice A 0 cw, .slice B 0 ci], .agg #[.int .i64 13, .int .i64 0, .int .i64 0, .int .i64 0, .int .i64 0, .bool false, .int .u64 0, .slice none 0 0, .slice none 0 0]] w fun e w' => e = .returned (.bool true) ∧ Below w.heap.size w w' := by
  have h := same21_any (litC 13 0) (litC 13 0) A none B none cw 0 ci 0 w (SlR.nil _ _) (SlR.nil _ _) (SlR.nil _ _) (SlR.nil _ _) (by decide) (by decide) (by decide) (by decide)
  rw [(sameC_iff _ _).2 rfl] at h
  exact h

def StA (w W : World) (A1 A2 : Option Addr) : Prop := Below w.heap.size w W ∧ SlR W A1 (u64s [5497558141696, 0]) ∧ SlR W A2 (u64s [3328, 0])
theorem StA.step {w W W' : World} {A1 A2 : Option Addr} (h : StA w W A1 A2) (hb : Below W.heap.size W W') : StA w W' A1 A2 :=
  ⟨h.1.trans (hb.mono h.1.size), h.2.1.below hb, h.2.2.below hb⟩
theorem StA.alloc {w W : World} {A1 A2 : Option Addr} (h : StA w W A1 A2) (o : Obj) : StA w (W.alloc o) A1 A2 := h.step ((Below.refl _ _).alloc (Nat.le_refl _) o)
def StC (w W : World) (A1 A2 : Option Addr) (g : Nat) (A3 B3 : Option Addr) (k3 j3 : Nat) : Prop := StA w W A1 A2 ∧ W.heap[g]? = some (.cells #[.int .i64 13, .int .i64 0, .int .i64 0, .int .i64 0, .int .i64 0, .bool false, .int .u64 0, .slice A3 0 k3, .slice B3 0 j3] 26 (0, 0))
theorem StC.step {w W W' : World} {A1 A2 : Option Addr} {g : Nat} {A3 B3 : Option Addr} {k3 j3 : Nat} (h : StC w W A1 A2 g A3 B3 k3 j3) (hb : Below W.heap.size W W') : StC w W' A1 A2 g A3 B3 k3 j3 :=
  ⟨h.1.step hb, (hb.block g (by
    rcases Nat.lt_or_ge g W.heap.size with hlt | hge
    · exact hlt
    · have := h.2; rw [Array.getElem?_eq_none hge] at this; cases this)).trans h.2⟩
theorem StC.alloc {w W : World} {A1 A2 : Option Addr} {g : Nat} {A3 B3 : Option Addr} {k3 j3 : Nat} (h : StC w W A1 A2 g A3 B3 k3 j3) (o : Obj) : StC w (W.alloc o) A1 A2 g A3 B3 k3 j3 := h.step ((Below.refl _ _).alloc (Nat.le_refl _) o)
theorem StC.new {w W : World} {A1 A2 : Option Addr} {A3 B3 : Option Addr} {k3 j3 : Nat} (h : StA w W A1 A2) : StC w (W.alloc (.cells #[.int .i64 13, .int .i64 0, .int .i64 0, .int .i64 0, .int .i64 0, .bool false, .int .u64 0, .slice A3 0 k3, .slice B3 0 j3] 26)) A1 A2 W.heap.size A3 B3 k3 j3 :=
  ⟨h.alloc _, heap_alloc_new W _⟩
theorem StC.tab {w W : World} {A1 A2 : Option Addr} {g : Nat} {A3 B3 : Option Addr} {k3 j3 : Nat} (h : StC w W A1 A2 g A3 B3 k3 j3) (hT : TabAt w) : TabAt W := hT.below hT.lt h.1.1

theorem StC.cells {w W : World} {A1 A2 : Option Addr} {g : Nat} {A3 B3 : Option Addr} {k3 j3 : Nat} (h : StC w W A1 A2 g A3 B3 k3 j3) : W.cell? ⟨g, 0, none⟩ = some (.int .i64 13) ∧ W.cell? ⟨g, 1, none⟩ = some (.int .i64 0) ∧ W.cell? ⟨g, 2, none⟩ = some (.int .i64 0) ∧ W.cell? ⟨g, 3, none⟩ = some (.int .i64 0) ∧ W.cell? ⟨g, 4, none⟩ = some (.int .i64 0) ∧ W.cell? ⟨g, 5, none⟩ = some (.bool false) ∧ W.cell? ⟨g, 6, none⟩ = some (.int .u64 0) ∧ W.cell? ⟨g, 7, none⟩ = some (.slice A3 0 k3) ∧ W.cell? ⟨g, 8, none⟩ = some (.slice B3 0 j3) :=
  ⟨cell_of_row W g 0 _ _ _ h.2, cell_of_row W g 1 _ _ _ h.2, cell_of_row W g 2 _ _ _ h.2, cell_of_row W g 3 _ _ _ h.2, cell_of_row W g 4 _ _ _ h.2, cell_of_row W g 5 _ _ _ h.2, cell_of_row W g 6 _ _ _ h.2, cell_of_row W g 7 _ _ _ h.2, cell_of_row W g 8 _ _ _ h.2⟩

set_option maxRecDepth 100000 in
set_option maxHeartbeats 3200000 in
theorem alive_any (w : World) (hT : TabAt w) : Calls Tryd.prog 11 #[] w fun e w' => e = .returned (.bool true) ∧ Below w.heap.size w w' := by
  have HT := Lib.hid hT
  clear hT
  go_enter Tryd.func11, Tryd.ntmps11
  go_wp2_with fail
  refine (enc11 _).mono ?_
  rintro e w1 ⟨A1, k1, rfl, _, hs1, hb1⟩
  simp only [List.length_cons, List.length_nil, Nat.reduceAdd]
  have B1 := Lib.hid hb1
  have Hs1 := Lib.hid hs1
  clear hs1 hb1
  go_wp2_with fail
  refine (enc13 _).mono ?_
  rintro e w2 ⟨A2, k2, rfl, _, hs2, hb2⟩
  simp only [List.length_cons, List.length_nil, Nat.reduceAdd]
  have Hst2 : Hid (StA w w2 A1 A2) := Lib.hid ⟨B1.out.trans (hb2.mono B1.out.size), Hs1.out.below hb2, hs2⟩
  clear hs2 hb2 Hs1 B1
  go_wp2_with fail
  refine (dec2 _ _ (SlR_new _ _ _)).mono ?_
  rintro e w3 ⟨A3, k3, B3, j3, rfl, hb3⟩
  have Hst3 : Hid (StA w w3 A1 A2) := Lib.hid ((Hst2.out.alloc _).step hb3)
  clear hb3 Hst2
  go_wp2_with fail
  refine (dec1 _ _ (SlR_new2 _ _ _ _)).mono ?_
  rintro e w4 ⟨A4, k4, B4, j4, rfl, hb4⟩
  have Hst4 : Hid (StC w w4 A1 A2 w3.heap.size A3 B3 k3 j3) := Lib.hid (((StC.new Hst3.out).alloc _).step hb4)
  clear hb4
  go_wp2_with fail
  refine (ask10 _ ((Hst4.out.alloc _).tab HT.out)).mono ?_
  rintro e w5 ⟨rfl, hb5⟩
  have Hst5 := Lib.hid ((Hst4.out.alloc _).step hb5)
  clear hb5
  go_wp2_with fail
  refine (ask11 _ (Hst5.out.tab HT.out)).mono ?_
  rintro e w6 ⟨rfl, hb6⟩
  have Hst6 := Lib.hid (Hst5.out.step hb6)
  clear hb6
  go_wp2_with fail
  refine (words2 _ _ rfl _ _ _ _ (Hst6.out.alloc _).1.2.1 (SlR_new _ _ _)).mono ?_
  rintro e w7 ⟨rfl, hb7⟩
  have Hst7 := Lib.hid ((Hst6.out.alloc _).step hb7)
  clear hb7
  go_wp2_with fail
  refine (words2 _ _ rfl _ _ _ _ (Hst7.out.alloc _).1.2.2 (SlR_new _ _ _)).mono ?_
  rintro e w8 ⟨rfl, hb8⟩
  have Hst8 := Lib.hid ((Hst7.out.alloc _).step hb8)
  clear hb8 Hst7 Hst6 Hst5 Hst4 Hst3
  obtain ⟨c0, c1, c2, c3, c4, c5, c6, c7, c8⟩ := Hst8.out.cells
  go_wp2_with fail
  refine (same13 _ _ _ _ _).mono ?_
  rintro e w9 ⟨rfl, hb9⟩
  have Hst9 := Lib.hid (Hst8.out.step hb9)
  clear hb9 c0 c1 c2 c3 c4 c5 c6 c7 c8 Hst8
  go_wp2_with fail
  refine (may1 _).mono ?_
  rintro e w10 ⟨rfl, hb10⟩
  have Hst10 := Lib.hid (Hst9.out.step hb10)
  clear hb10 Hst9
  go_wp2_with fail
  refine (may0 _).mono ?_
  rintro e w11 ⟨rfl, hb11⟩
  have Hst11 := Lib.hid (Hst10.out.step hb11)
  clear hb11 Hst10
  go_wp2_with fail
  refine (names_any _).mono ?_
  rintro e w12 ⟨rfl, rfl⟩
  go_wp2_with fail
  go_ret
  exact ⟨rfl, (Hst11.out.1.alloc _).1⟩
end Go.Proofs.YtmjkljgccaipoaaDoor
