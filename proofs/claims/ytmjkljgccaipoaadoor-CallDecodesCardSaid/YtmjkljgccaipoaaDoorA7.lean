/- The contract of the reference's comparison of calls; Asks and its reference; Names. Condition: the table of Asks holds what its text says. -/
import Derived.Test.YtmjkljgccaipoaaDoorA6
import Derived.Test.YtmjkljgccaipoaaDoorP1
namespace Go.Proofs.YtmjkljgccaipoaaDoor
open Go.RowKit

def sameC (a b : Cal) : Bool := sameM 0 0 a.words b.words a.items b.items && decide (a.op = b.op ∧ a.slot = b.slot ∧ a.a = b.a ∧ a.b = b.b ∧ a.c = b.c ∧ a.flag = b.flag ∧ a.x = b.x)
theorem sameC_iff (a b : Cal) : sameC a b = true ↔ a = b := by
  obtain ⟨op, slot, a1, a2, a3, f, x, ws, is⟩ := a
  obtain ⟨op', slot', b1, b2, b3, f', x', ws', is'⟩ := b
  simp only [sameC, sameM, Bool.and_eq_true, decide_eq_true_eq, eqL, eqIs_iff, Cal.mk.injEq, true_and]
  constructor
  · rintro ⟨⟨h1, h2⟩, h3, h4, h5, h6, h7, h8, h9⟩
    exact ⟨h3, h4, h5, h6, h7, h8, h9, h1, h2⟩
  · rintro ⟨h3, h4, h5, h6, h7, h8, h9, h1, h2⟩
    exact ⟨⟨h1, h2⟩, h3, h4, h5, h6, h7, h8, h9⟩

set_option maxRecDepth 100000 in
set_option maxHeartbeats 1600000 in
theorem same21_any (a b : Cal) (A B C D : Option Addr) (ca cb cc cd : Nat) (w : World)
    (hA : SlR w A (u64s a.words)) (hB : SlR w B (u64s b.words)) (hC : SlR w C (itemCells a.items)) (hD : SlR w D (itemCells b.items))
    (l1 : a.words.length ≤ 9223372036854775807) (l2 : b.words.length ≤ 9223372036854775807) (l3 : a.items.length ≤ 9223372036854775807) (l4 : b.items.length ≤ 9223372036854775807) :
    Calls Tryd.prog 19 #[.agg #[.int .i64 a.op, .int .i64 a.slot, .int .i64 a.a, .int .i64 a.b, .int .i64 a.c, .bool a.flag, .int .u64 (a.x : Int), .slice A a.words.length ca, .slice C a.items.length cc], .agg #[.int .i64 b.op, .int .i64 b.slot, .int .i64 b.a, .int .i64 b.b, .int .i64 b.c, .bool b.flag, .int .u64 (b.x : Int), .slice B b.words.length cb, .slice D b.items.length cd]] w
      fun e w' => e = .returned (.bool (sameC a b)) ∧ Below w.heap.size w w' := by
  have HA := Lib.hid hA
  have HB := Lib.hid hB
  have HC := Lib.hid hC
  have HD := Lib.hid hD
  clear hA hB hC hD
  have up : ∀ (Z : Option Addr) (xs : List Value) (o1 o2 : Obj), SlR w Z xs → SlR ((w.alloc o1).alloc o2) Z xs := fun Z xs o1 o2 h => (h.below ((Below.refl _ _).alloc (Nat.le_refl _) _)).below ((Below.refl _ _).alloc (Nat.le_refl _) _)
  have Up := Lib.hid up
  clear up
  cases e1 : sameM 0 0 a.words b.words a.items b.items
  · have E1 := Lib.hid e1
    go_enter Tryd.func19, Tryd.ntmps19
    go_wp2_with (go_at_call 33; refine (same14_any 0 0 a.words b.words a.items b.items A B C D ca cb cc cd _ (Up.out _ _ _ _ HA.out) (Up.out _ _ _ _ HB.out) (Up.out _ _ _ _ HC.out) (Up.out _ _ _ _ HD.out) l1 l2 l3 l4).mono ?_; rintro e w1 ⟨rfl, hb⟩; obtain ⟨hbw, hc0, hc1, hz1⟩ := box2_after hb; clear hb)
    go_ret
    exact ⟨ret_bool (by simp [sameC, E1.out]), hbw⟩
  · have E1 := Lib.hid e1
    go_enter Tryd.func19, Tryd.ntmps19
    go_wp2_with (go_at_call 33; refine (same14_any 0 0 a.words b.words a.items b.items A B C D ca cb cc cd _ (Up.out _ _ _ _ HA.out) (Up.out _ _ _ _ HB.out) (Up.out _ _ _ _ HC.out) (Up.out _ _ _ _ HD.out) l1 l2 l3 l4).mono ?_; rintro e w1 ⟨rfl, hb⟩; obtain ⟨hbw, hc0, hc1, hz1⟩ := box2_after hb; clear hb; have y0 : w1.cell? ⟨w.heap.size, 0, none⟩ = some (.int .i64 a.op) := (hc0 0).trans rfl; have z0 : w1.cell? ⟨w.heap.size + 1, 0, none⟩ = some (.int .i64 b.op) := (hc1 0).trans rfl; have y1 : w1.cell? ⟨w.heap.size, 1, none⟩ = some (.int .i64 a.slot) := (hc0 1).trans rfl; have z1 : w1.cell? ⟨w.heap.size + 1, 1, none⟩ = some (.int .i64 b.slot) := (hc1 1).trans rfl; have y2 : w1.cell? ⟨w.heap.size, 2, none⟩ = some (.int .i64 a.a) := (hc0 2).trans rfl; have z2 : w1.cell? ⟨w.heap.size + 1, 2, none⟩ = some (.int .i64 b.a) := (hc1 2).trans rfl; have y3 : w1.cell? ⟨w.heap.size, 3, none⟩ = some (.int .i64 a.b) := (hc0 3).trans rfl; have z3 : w1.cell? ⟨w.heap.size + 1, 3, none⟩ = some (.int .i64 b.b) := (hc1 3).trans rfl; have y4 : w1.cell? ⟨w.heap.size, 4, none⟩ = some (.int .i64 a.c) := (hc0 4).trans rfl; have z4 : w1.cell? ⟨w.heap.size + 1, 4, none⟩ = some (.int .i64 b.c) := (hc1 4).trans rfl; have y5 : w1.cell? ⟨w.heap.size, 5, none⟩ = some (.bool a.flag) := (hc0 5).trans rfl; have z5 : w1.cell? ⟨w.heap.size + 1, 5, none⟩ = some (.bool b.flag) := (hc1 5).trans rfl; have y6 : w1.cell? ⟨w.heap.size, 6, none⟩ = some (.int .u64 (a.x : Int)) := (hc0 6).trans rfl; have z6 : w1.cell? ⟨w.heap.size + 1, 6, none⟩ = some (.int .u64 (b.x : Int)) := (hc1 6).trans rfl; clear hc0 hc1)
    all_goals go_ret
    all_goals refine ⟨ret_bool ?_, hbw⟩
    all_goals simp only [sameC, E1.out, Bool.true_and]
    all_goals (rw [Bool.eq_iff_iff]; simp)
    · constructor
      · intro h; exact ⟨by assumption, by assumption, by assumption, by assumption, by assumption, by assumption, by omega⟩
      · rintro ⟨_, _, _, _, _, _, h⟩; omega
    all_goals (intros; contradiction)

/-! ## what Ops ask -/
def askRows : List (Int × Int × Bool) := [(0, 0, false), (1, 1, true), (0, 8, true), (3, 2, true), (3, 2, true), (4, 2, true), (5, 2, true), (5, 2, true), (5, 2, true), (5, 1, true), (4, 1, true), (0, 0, false), (0, 0, false), (0, 0, false), (0, 0, false), (2, 2, true), (0, 0, true), (8, 1, true), (8, 2, true)]
def ask (op : Int) : Int × Int × Bool := if 0 ≤ op ∧ op < 19 then askRows.getD op.toNat (0, 0, false) else (0, 0, false)
/-- the table holds what its text says -/
def TabAt (w : World) : Prop := ∀ k, k < 19 → w.cell? ⟨0, k * 3, none⟩ = some (.int .i64 (askRows.getD k (0, 0, false)).1) ∧ w.cell? ⟨0, k * 3 + 1, none⟩ = some (.int .i64 (askRows.getD k (0, 0, false)).2.1) ∧ w.cell? ⟨0, k * 3 + 2, none⟩ = some (.bool (askRows.getD k (0, 0, false)).2.2)
theorem TabAt.below {w w' : World} {B : Nat} (h : TabAt w) (hB : 0 < B) (hb : Below B w w') : TabAt w' := fun k hk =>
  ⟨(hb.cell (p := ⟨0, k * 3, none⟩) hB).trans (h k hk).1, (hb.cell (p := ⟨0, k * 3 + 1, none⟩) hB).trans (h k hk).2.1, (hb.cell (p := ⟨0, k * 3 + 2, none⟩) hB).trans (h k hk).2.2⟩
theorem TabAt.lt {w : World} (h : TabAt w) : 0 < w.heap.size := World.block_lt_of_cell? w ⟨0, 0, none⟩ (h 0 (by omega)).1

def AskPost (w : World) (t : Int × Int × Bool) (e : Ending) (w' : World) : Prop := e = .returned (.tuple #[.int .i64 t.1, .int .i64 t.2.1, .bool t.2.2]) ∧ Below w.heap.size w w'

theorem asks_any (op : Int) (w : World) (hT : TabAt w) : Calls Tryd.prog 20 #[.int .i64 op] w (AskPost w (ask op)) := by
  by_cases h : 0 ≤ op ∧ op < 19
  · obtain ⟨h0, h1⟩ := h
    obtain ⟨k, rfl⟩ := Int.eq_ofNat_of_zero_le h0
    obtain ⟨c0, c1, c2⟩ := hT k (by omega)
    have ha : ask (k : Int) = askRows.getD k (0, 0, false) := by simp [ask, h1]
    rw [ha]
    clear ha hT
    generalize askRows.getD k (0, 0, false) = t at *
    obtain ⟨t0, t1, t2⟩ := t
    simp only at c0 c1 c2
    go_enter Tryd.func20, Tryd.ntmps20
    go_wp2_with fail
    go_quiet (fail)
    go_wp2
    go_ret3
    exact ⟨rfl, below_drewN (Below.refl _ _) _⟩
  · have ha : ask op = (0, 0, false) := by simp only [ask, if_neg h]
    rw [ha]
    clear ha hT
    go_enter Tryd.func20, Tryd.ntmps20
    go_wp2_with fail
    all_goals first
      | (go_ret3; exact ⟨rfl, Below.refl _ _⟩)
      | (exfalso; omega)

theorem ask_else (op : Int) (h : op ≠ 1 ∧ op ≠ 2 ∧ op ≠ 3 ∧ op ≠ 4 ∧ op ≠ 5 ∧ op ≠ 6 ∧ op ≠ 7 ∧ op ≠ 8 ∧ op ≠ 9 ∧ op ≠ 10 ∧ op ≠ 15 ∧ op ≠ 16 ∧ op ≠ 17 ∧ op ≠ 18) : ask op = (0, 0, false) := by
  by_cases h1 : 0 ≤ op ∧ op < 19
  · have : op = 0 ∨ op = 11 ∨ op = 12 ∨ op = 13 ∨ op = 14 := by omega
    rcases this with rfl | rfl | rfl | rfl | rfl <;> rfl
  · simp only [ask, if_neg h1]

set_option maxHeartbeats 1600000 in
theorem asks21_any (op : Int) (w : World) : Calls Tryd.prog 21 #[.int .i64 op] w (AskPost w (ask op)) := by
  go_enter Tryd.func21, Tryd.ntmps21
  go_wp2
  all_goals go_ret3
  all_goals refine ⟨?_, Below.refl _ _⟩
  all_goals first
    | (rename_i h; have h := beq_iff_eq.1 h; subst h; rfl)
    | (simp only [beq_eq_false_iff_ne] at *; rw [ask_else op (by refine ⟨?_, ?_, ?_, ?_, ?_, ?_, ?_, ?_, ?_, ?_, ?_, ?_, ?_, ?_⟩ <;> assumption)]; rfl)

/-! ## the Ops' names -/
def nameV : Array Value := #[.string ⟨#[109, 97, 107, 101]⟩, .string ⟨#[107, 105, 108, 108]⟩, .string ⟨#[115, 116, 97, 114, 116]⟩, .string ⟨#[115, 116, 111, 112]⟩, .string ⟨#[115, 101, 114, 118, 101]⟩, .string ⟨#[108, 105, 115, 116, 101, 110]⟩, .string ⟨#[119, 105, 114, 101]⟩, .string ⟨#[109, 97, 115, 107]⟩, .string ⟨#[116, 114, 105, 103, 103, 101, 114]⟩, .string ⟨#[115, 101, 110, 100]⟩, .string ⟨#[119, 97, 105, 116]⟩, .string ⟨#[114, 101, 112, 108, 121]⟩, .string ⟨#[121, 105, 101, 108, 100]⟩, .string ⟨#[111, 112, 101, 110]⟩, .string ⟨#[109, 97, 112]⟩, .string ⟨#[114, 101, 118, 111, 107, 101]⟩, .string ⟨#[108, 111, 97, 100]⟩, .string ⟨#[115, 116, 111, 114, 101]⟩]
def nameS (j : Nat) : ByteArray := match nameV[j]? with | some (.string s) => s | _ => ByteArray.empty
theorem nameV_at (j : Nat) (h : j < 18) : nameV[j]? = some (.string (nameS j)) := by
  match j, h with
  | 0, _ => rfl
  | 1, _ => rfl
  | 2, _ => rfl
  | 3, _ => rfl
  | 4, _ => rfl
  | 5, _ => rfl
  | 6, _ => rfl
  | 7, _ => rfl
  | 8, _ => rfl
  | 9, _ => rfl
  | 10, _ => rfl
  | 11, _ => rfl
  | 12, _ => rfl
  | 13, _ => rfl
  | 14, _ => rfl
  | 15, _ => rfl
  | 16, _ => rfl
  | 17, _ => rfl
  | n + 18, h => omega

theorem names_any (w : World) : Calls Tryd.prog 22 #[] w fun e w' => e = .returned (.slice (some ⟨w.heap.size, 0, none⟩) 18 18) ∧ w' = w.alloc (.cells nameV 9) := by
  go_enter Tryd.func22, Tryd.ntmps22
  go_wp2
  go_ret
  exact ⟨rfl, rfl⟩
end Go.Proofs.YtmjkljgccaipoaaDoor
