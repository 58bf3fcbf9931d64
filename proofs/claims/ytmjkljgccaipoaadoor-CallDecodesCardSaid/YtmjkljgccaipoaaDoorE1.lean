/- The walk of CallApart: of two calls whose lists are read, true. Condition: the table of Asks holds what its text says. -/
import Derived.Test.YtmjkljgccaipoaaDoorD1
namespace Go.Proofs.YtmjkljgccaipoaaDoor
open Go.RowKit

/-- a call is read: its lists lie there, and are no longer than lists may be -/
def CallR (w : World) (c : Cal) (A B : Option Addr) : Prop := SlR w A (u64s c.words) ∧ SlR w B (itemCells c.items) ∧ c.words.length ≤ 9223372036854775807 ∧ c.items.length ≤ 9223372036854775807
theorem CallR.below {w w' : World} {c : Cal} {A B : Option Addr} (h : CallR w c A B) (hb : Below w.heap.size w w') : CallR w' c A B := ⟨h.1.below hb, h.2.1.below hb, h.2.2⟩

theorem may_lit (c : Cal) (r : Bool) (hr : mayC c = r) (A B : Option Addr) (cw ci : Nat) (w : World) (h : CallR w c A B) :
    Calls Tryd.prog 12 #[.agg #[.int .i64 c.op, .int .i64 c.slot, .int .i64 c.a, .int .i64 c.b, .int .i64 c.c, .bool c.flag, .int .u64 (c.x : Int), .slice A c.words.length cw, .slice B c.items.length ci]] w
      fun e w' => e = .returned (.bool r) ∧ Below w.heap.size w w' := by
  have := may_any c A B cw ci w h.2.1 h.2.2.2 h.2.2.1
  rw [hr] at this
  exact this
theorem enc_lit (c : Cal) (l : List Nat) (hl : encC c = l) (n : Nat) (hn : l.length = n) (A B : Option Addr) (cw ci : Nat) (w : World) (h : CallR w c A B) :
    Calls Tryd.prog 15 #[.agg #[.int .i64 c.op, .int .i64 c.slot, .int .i64 c.a, .int .i64 c.b, .int .i64 c.c, .bool c.flag, .int .u64 (c.x : Int), .slice A c.words.length cw, .slice B c.items.length ci]] w
      fun e w' => ∃ (Z : Option Addr) (k : Nat), e = .returned (.slice Z n k) ∧ n ≤ k ∧ SlR w' Z (u64s l) ∧ Below w.heap.size w w' := by
  subst hl hn
  exact encode_any c A B cw ci w h.1 h.2.1 h.2.2.2 h.2.2.1
theorem same_lit (a b : Cal) (r : Bool) (hr : sameC a b = r) (A B C D : Option Addr) (ca cb cc cd : Nat) (w : World) (h : CallR w a A C) (h' : CallR w b B D) :
    Calls Tryd.prog 19 #[.agg #[.int .i64 a.op, .int .i64 a.slot, .int .i64 a.a, .int .i64 a.b, .int .i64 a.c, .bool a.flag, .int .u64 (a.x : Int), .slice A a.words.length ca, .slice C a.items.length cc], .agg #[.int .i64 b.op, .int .i64 b.slot, .int .i64 b.a, .int .i64 b.b, .int .i64 b.c, .bool b.flag, .int .u64 (b.x : Int), .slice B b.words.length cb, .slice D b.items.length cd]] w
      fun e w' => e = .returned (.bool r) ∧ Below w.heap.size w w' := by
  have := same21_any a b A B C D ca cb cc cd w h.1 h'.1 h.2.1 h'.2.1 h.2.2.1 h'.2.2.1 h.2.2.2 h'.2.2.2
  rw [hr] at this
  exact this
theorem words_lit (l m : List Nat) (n k : Nat) (hn : l.length = n) (hk : m.length = k) (r : Bool) (hr : (r = true) ↔ (l = m)) (A B : Option Addr) (ca cb : Nat) (w : World) (hA : SlR w A (u64s l)) (hB : SlR w B (u64s m)) (l1 : n ≤ 9223372036854775807) (l2 : k ≤ 9223372036854775807) :
    Calls Tryd.prog 14 #[.slice A n ca, .slice B k cb] w fun e w' => e = .returned (.bool r) ∧ Below w.heap.size w w' := by
  subst hn hk
  have := words_any l m A B ca cb w hA hB l1 l2
  rw [show eqL l m = r by rw [Bool.eq_iff_iff, hr]; simp [eqL]] at this
  exact this

def callW (c : Cal) (A : Option Addr) (cw : Nat) (B : Option Addr) (ci : Nat) : Array Value := #[.int .i64 c.op, .int .i64 c.slot, .int .i64 c.a, .int .i64 c.b, .int .i64 c.c, .bool c.flag, .int .u64 (c.x : Int), .slice A c.words.length cw, .slice B c.items.length ci]
/-- a call's variable lies at a block, and the call is read -/
def CAt (w : World) (g : Nat) (c : Cal) (A : Option Addr) (cw : Nat) (B : Option Addr) (ci : Nat) : Prop := w.heap[g]? = some (.cells (callW c A cw B ci) 26 (0, 0)) ∧ CallR w c A B
theorem CAt.below {w w' : World} {g : Nat} {c : Cal} {A B : Option Addr} {cw ci : Nat} (h : CAt w g c A cw B ci) (hb : Below w.heap.size w w') : CAt w' g c A cw B ci :=
  ⟨(hb.block g (by
    rcases Nat.lt_or_ge g w.heap.size with hlt | hge
    · exact hlt
    · have := h.1; rw [Array.getElem?_eq_none hge] at this; cases this)).trans h.1, h.2.below hb⟩
theorem CAt.alloc {w : World} {g : Nat} {c : Cal} {A B : Option Addr} {cw ci : Nat} (h : CAt w g c A cw B ci) (o : Obj) : CAt (w.alloc o) g c A cw B ci := h.below ((Below.refl _ _).alloc (Nat.le_refl _) o)
theorem CAt.new {w : World} {c : Cal} {A B : Option Addr} {cw ci : Nat} (h : CallR w c A B) : CAt (w.alloc (.cells #[.int .i64 c.op, .int .i64 c.slot, .int .i64 c.a, .int .i64 c.b, .int .i64 c.c, .bool c.flag, .int .u64 (c.x : Int), .slice A c.words.length cw, .slice B c.items.length ci] 26)) w.heap.size c A cw B ci :=
  ⟨heap_alloc_new w _, h.below ((Below.refl _ _).alloc (Nat.le_refl _) _)⟩
theorem CAt.cells {w : World} {g : Nat} {c : Cal} {A B : Option Addr} {cw ci : Nat} (h : CAt w g c A cw B ci) :
    w.cell? ⟨g, 0, none⟩ = some (.int .i64 c.op) ∧ w.cell? ⟨g, 1, none⟩ = some (.int .i64 c.slot) ∧ w.cell? ⟨g, 2, none⟩ = some (.int .i64 c.a) ∧ w.cell? ⟨g, 3, none⟩ = some (.int .i64 c.b) ∧ w.cell? ⟨g, 4, none⟩ = some (.int .i64 c.c) ∧ w.cell? ⟨g, 5, none⟩ = some (.bool c.flag) ∧ w.cell? ⟨g, 6, none⟩ = some (.int .u64 (c.x : Int)) ∧ w.cell? ⟨g, 7, none⟩ = some (.slice A c.words.length cw) ∧ w.cell? ⟨g, 8, none⟩ = some (.slice B c.items.length ci) :=
  ⟨cell_of_row w g 0 _ _ _ h.1, cell_of_row w g 1 _ _ _ h.1, cell_of_row w g 2 _ _ _ h.1, cell_of_row w g 3 _ _ _ h.1, cell_of_row w g 4 _ _ _ h.1, cell_of_row w g 5 _ _ _ h.1, cell_of_row w g 6 _ _ _ h.1, cell_of_row w g 7 _ _ _ h.1, cell_of_row w g 8 _ _ _ h.1⟩
/-- two calls' variables, and the way here -/
def St2 (w W : World) (g g' : Nat) (a b : Cal) (A A' B B' : Option Addr) (ca ca' cb cb' : Nat) : Prop := Below w.heap.size w W ∧ CAt W g a A ca A' ca' ∧ CAt W g' b B cb B' cb'
theorem St2.step {w W W' : World} {g g' : Nat} {a b : Cal} {A A' B B' : Option Addr} {ca ca' cb cb' : Nat} (h : St2 w W g g' a b A A' B B' ca ca' cb cb') (hb : Below W.heap.size W W') : St2 w W' g g' a b A A' B B' ca ca' cb cb' :=
  ⟨h.1.trans (hb.mono h.1.size), h.2.1.below hb, h.2.2.below hb⟩
theorem St2.new {w : World} {a b : Cal} {A A' B B' : Option Addr} {ca ca' cb cb' : Nat} (ha : CallR w a A A') (hb : CallR w b B B') :
    St2 w ((w.alloc (.cells #[.int .i64 a.op, .int .i64 a.slot, .int .i64 a.a, .int .i64 a.b, .int .i64 a.c, .bool a.flag, .int .u64 (a.x : Int), .slice A a.words.length ca, .slice A' a.items.length ca'] 26)).alloc (.cells #[.int .i64 b.op, .int .i64 b.slot, .int .i64 b.a, .int .i64 b.b, .int .i64 b.c, .bool b.flag, .int .u64 (b.x : Int), .slice B b.words.length cb, .slice B' b.items.length cb'] 26)) w.heap.size (w.heap.size + 1) a b A A' B B' ca ca' cb cb' := by
  have h0 := (Below.refl w.heap.size w).alloc (Nat.le_refl _) (.cells #[.int .i64 a.op, .int .i64 a.slot, .int .i64 a.a, .int .i64 a.b, .int .i64 a.c, .bool a.flag, .int .u64 (a.x : Int), .slice A a.words.length ca, .slice A' a.items.length ca'] 26)
  have h2 := CAt.new (ci := cb') (cw := cb) (hb.below h0)
  simp only [World.size_alloc] at h2
  exact ⟨h0.alloc h0.size _, (CAt.new ha).alloc _, h2⟩

theorem St2.cells {w W : World} {g g' : Nat} {a b : Cal} {A A' B B' : Option Addr} {ca ca' cb cb' : Nat} (h : St2 w W g g' a b A A' B B' ca ca' cb cb') :
    W.cell? ⟨g, 0, none⟩ = some (.int .i64 a.op) ∧ W.cell? ⟨g, 1, none⟩ = some (.int .i64 a.slot) ∧ W.cell? ⟨g, 2, none⟩ = some (.int .i64 a.a) ∧ W.cell? ⟨g, 3, none⟩ = some (.int .i64 a.b) ∧ W.cell? ⟨g, 4, none⟩ = some (.int .i64 a.c) ∧ W.cell? ⟨g, 5, none⟩ = some (.bool a.flag) ∧ W.cell? ⟨g, 6, none⟩ = some (.int .u64 (a.x : Int)) ∧ W.cell? ⟨g, 7, none⟩ = some (.slice A a.words.length ca) ∧ W.cell? ⟨g, 8, none⟩ = some (.slice A' a.items.length ca') ∧ W.cell? ⟨g', 0, none⟩ = some (.int .i64 b.op) ∧ W.cell? ⟨g', 1, none⟩ = some (.int .i64 b.slot) ∧ W.cell? ⟨g', 2, none⟩ = some (.int .i64 b.a) ∧ W.cell? ⟨g', 3, none⟩ = some (.int .i64 b.b) ∧ W.cell? ⟨g', 4, none⟩ = some (.int .i64 b.c) ∧ W.cell? ⟨g', 5, none⟩ = some (.bool b.flag) ∧ W.cell? ⟨g', 6, none⟩ = some (.int .u64 (b.x : Int)) ∧ W.cell? ⟨g', 7, none⟩ = some (.slice B b.words.length cb) ∧ W.cell? ⟨g', 8, none⟩ = some (.slice B' b.items.length cb') := by
  obtain ⟨c0, c1, c2, c3, c4, c5, c6, c7, c8⟩ := h.2.1.cells
  obtain ⟨d0, d1, d2, d3, d4, d5, d6, d7, d8⟩ := h.2.2.cells
  exact ⟨c0, c1, c2, c3, c4, c5, c6, c7, c8, d0, d1, d2, d3, d4, d5, d6, d7, d8⟩
theorem St2.drew {w W : World} {g g' : Nat} {a b : Cal} {A A' B B' : Option Addr} {ca ca' cb cb' : Nat} (h : St2 w W g g' a b A A' B B' ca ca' cb cb') : St2 w W.drew g g' a b A A' B B' ca ca' cb cb' := h.step (Below.refl _ _).drew

theorem St2.ra {w W : World} {g g' : Nat} {a b : Cal} {A A' B B' : Option Addr} {ca ca' cb cb' : Nat} (h : St2 w W g g' a b A A' B B' ca ca' cb cb') : CallR W a A A' := h.2.1.2
theorem St2.rb {w W : World} {g g' : Nat} {a b : Cal} {A A' B B' : Option Addr} {ca ca' cb cb' : Nat} (h : St2 w W g g' a b A A' B B' ca ca' cb cb') : CallR W b B B' := h.2.2.2

set_option maxRecDepth 100000 in
set_option maxHeartbeats 3200000 in
theorem apart_any (a b : Cal) (A A' B B' : Option Addr) (ca ca' cb cb' : Nat) (w : World) (hT : TabAt w) (ha : CallR w a A A') (hb : CallR w b B B') :
    Calls Tryd.prog 8 #[.agg #[.int .i64 a.op, .int .i64 a.slot, .int .i64 a.a, .int .i64 a.b, .int .i64 a.c, .bool a.flag, .int .u64 (a.x : Int), .slice A a.words.length ca, .slice A' a.items.length ca'], .agg #[.int .i64 b.op, .int .i64 b.slot, .int .i64 b.a, .int .i64 b.b, .int .i64 b.c, .bool b.flag, .int .u64 (b.x : Int), .slice B b.words.length cb, .slice B' b.items.length cb']] w
      fun e w' => e = .returned (.bool true) ∧ Below w.heap.size w w' := by
  have Hst0 := Lib.hid (St2.new (ca := ca) (ca' := ca') (cb := cb) (cb' := cb') ha hb)
  have HT := Lib.hid (hT.below hT.lt Hst0.out.1)
  clear ha hb hT
  cases e1 : mayC a
  · have E1 := Lib.hid e1
    clear e1
    go_enter Tryd.func8, Tryd.ntmps8
    go_wp2_with fail
    refine (alive_any _ HT.out).mono ?_
    rintro e w1 ⟨rfl, hb1⟩
    have Hst1 := Lib.hid (Hst0.out.step hb1)
    clear hb1 Hst0
    obtain ⟨c0, c1, c2, c3, c4, c5, c6, c7, c8⟩ := Hst1.out.2.1.cells
    go_wp2_with fail
    refine (may_lit a false E1.out _ _ _ _ _ Hst1.out.2.1.2).mono ?_
    rintro e w2 ⟨rfl, hb2⟩
    have Hst2 := Lib.hid (Hst1.out.step hb2)
    clear hb2 Hst1 c0 c1 c2 c3 c4 c5 c6 c7 c8
    go_wp2_with fail
    go_ret
    exact ⟨rfl, Hst2.out.1⟩
  cases e2 : mayC b
  · have E1 := Lib.hid e1
    have E2 := Lib.hid e2
    clear e1 e2
    go_enter Tryd.func8, Tryd.ntmps8
    go_wp2_with fail
    refine (alive_any _ HT.out).mono ?_
    rintro e w1 ⟨rfl, hb1⟩
    have Hst1 := Lib.hid (Hst0.out.step hb1)
    clear hb1 Hst0
    obtain ⟨c0, c1, c2, c3, c4, c5, c6, c7, c8⟩ := Hst1.out.2.1.cells
    go_wp2_with fail
    refine (may_lit a true E1.out _ _ _ _ _ Hst1.out.2.1.2).mono ?_
    rintro e w2 ⟨rfl, hb2⟩
    have Hst2 := Lib.hid (Hst1.out.step hb2)
    clear hb2 Hst1 c0 c1 c2 c3 c4 c5 c6 c7 c8
    obtain ⟨c0, c1, c2, c3, c4, c5, c6, c7, c8⟩ := Hst2.out.2.2.cells
    go_wp2_with fail
    refine (may_lit b false E2.out _ _ _ _ _ Hst2.out.2.2.2).mono ?_
    rintro e w3 ⟨rfl, hb3⟩
    have Hst3 := Lib.hid (Hst2.out.step hb3)
    clear hb3 Hst2 c0 c1 c2 c3 c4 c5 c6 c7 c8
    go_wp2_with fail
    go_ret
    exact ⟨rfl, Hst3.out.1⟩
  have hr : ∀ r, sameC a b = r → ((r = true) ↔ (encC a = encC b)) := fun r h => by
    rw [← h, sameC_iff]
    exact ⟨fun e => by rw [e], fun e => encC_apart a b e1 e2 e⟩
  obtain ⟨r, er⟩ : ∃ r, sameC a b = r := ⟨_, rfl⟩
  obtain ⟨n, hn⟩ : ∃ n, (encC a).length = n := ⟨_, rfl⟩
  obtain ⟨k, hk⟩ : ∃ k, (encC b).length = k := ⟨_, rfl⟩
  have hn9 : n ≤ 9223372036854775807 := by
    have := encC_length a e1
    have := ((mayC_iff a).1 e1).2
    omega
  have hk9 : k ≤ 9223372036854775807 := by
    have := encC_length b e2
    have := ((mayC_iff b).1 e2).2
    omega
  have E1 := Lib.hid e1
  have E2 := Lib.hid e2
  have Hr := Lib.hid (hr r er)
  have Er := Lib.hid er
  have Hn := Lib.hid hn
  have Hk := Lib.hid hk
  have Hn9 := Lib.hid hn9
  have Hk9 := Lib.hid hk9
  clear e1 e2 hr er hn hk hn9 hk9
  go_enter Tryd.func8, Tryd.ntmps8
  go_wp2_with fail
  refine (alive_any _ HT.out).mono ?_
  rintro e w1 ⟨rfl, hb1⟩
  have Hst1 := Lib.hid (Hst0.out.step hb1)
  clear hb1 Hst0
  obtain ⟨c0, c1, c2, c3, c4, c5, c6, c7, c8⟩ := Hst1.out.2.1.cells
  go_wp2_with fail
  refine (may_lit a true E1.out _ _ _ _ _ Hst1.out.2.1.2).mono ?_
  rintro e w2 ⟨rfl, hb2⟩
  have Hst2 := Lib.hid (Hst1.out.step hb2)
  clear hb2 Hst1 c0 c1 c2 c3 c4 c5 c6 c7 c8
  obtain ⟨c0, c1, c2, c3, c4, c5, c6, c7, c8⟩ := Hst2.out.2.2.cells
  go_wp2_with fail
  refine (may_lit b true E2.out _ _ _ _ _ Hst2.out.2.2.2).mono ?_
  rintro e w3 ⟨rfl, hb3⟩
  have Hst3 := Lib.hid (Hst2.out.step hb3)
  clear hb3 Hst2 c0 c1 c2 c3 c4 c5 c6 c7 c8
  have hSt := Hst3.out
  have hSd := Hst3.out.drew
  go_wp2_with fail
  go_region_held3 (fun w' => w'.cell? ⟨w.heap.size, 0, none⟩ = some (.int .i64 a.op) ∧ w'.cell? ⟨w.heap.size, 1, none⟩ = some (.int .i64 a.slot) ∧ w'.cell? ⟨w.heap.size, 2, none⟩ = some (.int .i64 a.a) ∧ w'.cell? ⟨w.heap.size, 3, none⟩ = some (.int .i64 a.b) ∧ w'.cell? ⟨w.heap.size, 4, none⟩ = some (.int .i64 a.c) ∧ w'.cell? ⟨w.heap.size, 5, none⟩ = some (.bool a.flag) ∧ w'.cell? ⟨w.heap.size, 6, none⟩ = some (.int .u64 (a.x : Int)) ∧ w'.cell? ⟨w.heap.size, 7, none⟩ = some (.slice A a.words.length ca) ∧ w'.cell? ⟨w.heap.size, 8, none⟩ = some (.slice A' a.items.length ca') ∧ w'.cell? ⟨(w.heap.size + 1), 0, none⟩ = some (.int .i64 b.op) ∧ w'.cell? ⟨(w.heap.size + 1), 1, none⟩ = some (.int .i64 b.slot) ∧ w'.cell? ⟨(w.heap.size + 1), 2, none⟩ = some (.int .i64 b.a) ∧ w'.cell? ⟨(w.heap.size + 1), 3, none⟩ = some (.int .i64 b.b) ∧ w'.cell? ⟨(w.heap.size + 1), 4, none⟩ = some (.int .i64 b.c) ∧ w'.cell? ⟨(w.heap.size + 1), 5, none⟩ = some (.bool b.flag) ∧ w'.cell? ⟨(w.heap.size + 1), 6, none⟩ = some (.int .u64 (b.x : Int)) ∧ w'.cell? ⟨(w.heap.size + 1), 7, none⟩ = some (.slice B b.words.length cb) ∧ w'.cell? ⟨(w.heap.size + 1), 8, none⟩ = some (.slice B' b.items.length cb')) (exact St2.cells (by assumption))
    (first | (go_at_call 15; (with_reducible refine (enc_lit a _ rfl n Hn.out _ _ _ _ _ (St2.ra (by assumption))).mono ?_); rintro e w4 ⟨Z, z, rfl, _, hz, hb4⟩; have hSt4 := St2.step (by assumption) hb4) | (go_at_call 15; (with_reducible refine (enc_lit b _ rfl k Hk.out _ _ _ _ _ (St2.rb (by assumption))).mono ?_); rintro e w5 ⟨Y, y, rfl, _, hy, hb5⟩; have hSt5 := St2.step (by assumption) hb5; have hz5 := SlR.below (xs := u64s (encC a)) (by assumption) hb5) | (go_at_call 14; (with_reducible refine (words_lit (encC a) (encC b) n k Hn.out Hk.out r Hr.out _ _ _ _ _ (by assumption) (by assumption) Hn9.out Hk9.out).mono ?_); rintro e w6 ⟨rfl, hb6⟩; have hSt6 := St2.step (by assumption) hb6) | (go_at_call 19; (with_reducible refine (same_lit a b r Er.out _ _ _ _ _ _ _ _ _ (St2.ra (by assumption)) (St2.rb (by assumption))).mono ?_); rintro e w7 ⟨rfl, hb7⟩; have hSt7 := St2.step (by assumption) hb7))
  have Hst7 := Lib.hid hSt7
  clear hSt7 hSt6 hSt5 hSt4 hSt hSd
  go_wp2_with fail
  go_ret
  exact ⟨ret_bool (by simp), Hst7.out.1⟩
end Go.Proofs.YtmjkljgccaipoaaDoor
