/- What it is that a slice of words, or of items, reads as in memory; the contract of May. -/
import Derived.Test.YtmjkljgccaipoaaDoorA1
import Derived.Test.YtmjkljgccaipoaaDoorP1
import Derived.Outline
namespace Go.Proofs.YtmjkljgccaipoaaDoor
open Go.RowKit

/-- a slice's cells: they lie in a row, if there are any -/
def SlR (w : World) (A : Option Addr) (xs : List Value) : Prop :=
  xs ≠ [] → ∃ b off, A = some ⟨b, off, none⟩ ∧ b < w.heap.size ∧ ∀ j u, xs[j]? = some u → w.cell? ⟨b, off + j, none⟩ = some u

theorem SlR.below {w w' : World} {A : Option Addr} {xs : List Value} (h : SlR w A xs) (hb : Below w.heap.size w w') : SlR w' A xs := fun hne => by
  obtain ⟨b, off, e, hlt, hc⟩ := h hne
  exact ⟨b, off, e, Nat.lt_of_lt_of_le hlt hb.size, fun j u hu => (hb.cell (p := ⟨b, off + j, none⟩) hlt).trans (hc j u hu)⟩

def u64s (l : List Nat) : List Value := l.map fun (x : Nat) => .int .u64 (x : Int)
def itemCells (l : List Itm) : List Value := l.flatMap Itm.cells

theorem itemCells_at : ∀ (l : List Itm) (k j : Nat) (i : Itm), l[k]? = some i → j < 5 → (itemCells l)[k * 5 + j]? = i.cells[j]?
  | [], k, j, i, h, _ => by simp at h
  | x :: l, 0, j, i, h, hj => by
    simp at h; subst h
    simp only [itemCells, List.flatMap_cons, Nat.zero_mul, Nat.zero_add]
    rw [List.getElem?_append_left (by simpa [Itm.cells] using hj)]
  | x :: l, k + 1, j, i, h, hj => by
    have := itemCells_at l k j i (by simpa using h) hj
    simp only [itemCells, List.flatMap_cons] at this ⊢
    rw [List.getElem?_append_right (by simp [Itm.cells]; omega), show (k + 1) * 5 + j - x.cells.length = k * 5 + j by simp [Itm.cells]; omega]
    exact this

/-- the cells of one item of a slice -/
theorem SlR.item {w : World} {B : Option Addr} {l : List Itm} (h : SlR w B (itemCells l)) {k : Nat} (hk : k < l.length) :
    ∃ b off, B = some ⟨b, off, none⟩ ∧ b < w.heap.size ∧ w.cell? ⟨b, off + k * 5, none⟩ = some (.int .i64 l[k].base) ∧ w.cell? ⟨b, off + k * 5 + 1, none⟩ = some (.int .i64 l[k].order) ∧
      w.cell? ⟨b, off + k * 5 + 2, none⟩ = some (.int .i64 l[k].rights) ∧ w.cell? ⟨b, off + k * 5 + 3, none⟩ = some (.int .i64 l[k].off) ∧ w.cell? ⟨b, off + k * 5 + 4, none⟩ = some (.bool l[k].grant) := by
  have hat := fun j (hj : j < 5) => itemCells_at l k j l[k] (List.getElem?_eq_getElem hk) hj
  obtain ⟨b, off, e, hlt, hc⟩ := h (fun e => by have := hat 0 (by omega); rw [e] at this; simp [Itm.cells] at this)
  exact ⟨b, off, e, hlt, hc _ _ (hat 0 (by omega)), hc _ _ (hat 1 (by omega)), hc _ _ (hat 2 (by omega)), hc _ _ (hat 3 (by omega)), hc _ _ (hat 4 (by omega))⟩

theorem layout_one : layoutC.all (·.oneCell') = true := by kernel_rfl

/-- a field of the layout, as three cells lie -/
def Fld (w : World) (g o : Nat) (p q m : Int) : Prop := w.cell? ⟨g, o, none⟩ = some (.int .u64 p) ∧ w.cell? ⟨g, o + 1, none⟩ = some (.int .u64 q) ∧ w.cell? ⟨g, o + 2, none⟩ = some (.int .i64 m)

/-- a block that was made just ahead of a call that only makes blocks -/
theorem box_after {w w1 : World} {cs : Array Value} {t : TypeId} (hb : Below (w.alloc (.cells cs t)).heap.size (w.alloc (.cells cs t)) w1) :
    Below w.heap.size w w1 ∧ (∀ i, w1.cell? ⟨w.heap.size, i, none⟩ = cs[i]?) ∧ w.heap.size < w1.heap.size := by
  refine ⟨((Below.refl _ _).alloc (Nat.le_refl _) _).trans (hb.mono (by simp)), fun i => ?_, ?_⟩
  · exact (hb.cell (p := ⟨w.heap.size, i, none⟩) (by simp)).trans (World.cell?_alloc_new w cs t i)
  · have := hb.size; simp at this; omega

theorem mayC_of_items {c : Cal} (h : ∀ j (hj : j < c.items.length), mayI c.items[j] = true) : c.items.all mayI = true := by
  rw [List.all_eq_true]
  intro x hx
  obtain ⟨j, hj, rfl⟩ := List.getElem_of_mem hx
  exact h j hj
theorem mayC_no {c : Cal} {k : Nat} (hk : k < c.items.length) (h : mayI c.items[k] = false) : mayC c = false := by
  have : c.items.all mayI = false := by
    rw [List.all_eq_false]
    exact ⟨_, List.getElem_mem hk, by simp [h]⟩
  simp [mayC, this]

set_option maxRecDepth 100000 in
set_option maxHeartbeats 1600000 in
theorem may_any (c : Cal) (A B : Option Addr) (cw ci : Nat) (w : World) (hB : SlR w B (itemCells c.items)) (hl : c.items.length ≤ 9223372036854775807) (hl2 : c.words.length ≤ 9223372036854775807) :
    Calls Tryd.prog 12 #[.agg #[.int .i64 c.op, .int .i64 c.slot, .int .i64 c.a, .int .i64 c.b, .int .i64 c.c, .bool c.flag, .int .u64 (c.x : Int), .slice A c.words.length cw, .slice B c.items.length ci]] w
      fun e w' => e = .returned (.bool (mayC c)) ∧ Below w.heap.size w w' := by
  have HB := Lib.hid hB
  clear hB
  go_enter Tryd.func12, Tryd.ntmps12
  go_wp2_with (first
    | (go_at_call 23; refine (layout_any _).mono ?_; rintro e w1 ⟨rfl, hb⟩; obtain ⟨hbw, hcb, hz⟩ := box_after hb; clear hb)
    | (refine wpList_store_new 51 rfl (.tmp 3) (.tmp 8) rfl _ layoutC rfl rfl info_layout rfl layout_one ?_))
  have hW0 : Below w.heap.size w (w1.alloc (.cells layoutC 51)) := hbw.alloc (by omega) _
  have hL : ∀ i, (w1.alloc (.cells layoutC 51)).cell? ⟨w1.heap.size, i, none⟩ = layoutC[i]? := fun i => World.cell?_alloc_new w1 _ _ i
  have hX := fun i => (World.cell?_alloc_lt w1 (.cells layoutC 51) ⟨w.heap.size, i, none⟩ hz).trans (hcb i)
  have hN : (w1.alloc (.cells layoutC 51)).heap.size = w1.heap.size + 1 := by simp
  generalize w1.alloc (.cells layoutC 51) = W2 at *
  have hg1 : w1.heap.size < W2.heap.size := by omega
  have hg0 : w.heap.size < W2.heap.size := by omega
  have HW0 := Lib.hid hW0
  have HL := Lib.hid hL
  have HX := Lib.hid hX
  clear hW0 hL hX hN hcb hbw
  go_loopw [12] (fun i wr => ∃ k : Nat, k ≤ c.items.length ∧ i = .int .i64 k ∧ (∀ j (hj : j < c.items.length), j < k → mayI c.items[j] = true) ∧ Below W2.heap.size W2 wr)
    (fun i _ => c.items.length - (intOf i).toNat)
  case atStart => exact ⟨0, Nat.zero_le _, rfl, fun j _ h => absurd h (by omega), Below.refl _ _⟩
  case round =>
    obtain ⟨k, hk, rfl, hyes, hwr⟩ := hrel
    have Hyes := Lib.hid hyes
    have Hwr := Lib.hid hwr
    clear hyes hwr
    by_cases hlt : k < c.items.length
    · obtain ⟨b, off, rfl, hbw, i0, i1, i2, i3, i4⟩ := ((HB.out.below HW0.out).below Hwr.out).item hlt
      by_cases hm : mayI c.items[k] = true
      · go_wp2_with (go_at_call 24; refine (code_yes c.items[k] _ hm).mono ?_; rintro e w3 ⟨rfl, hb3⟩)
        go_roundw
        case rel =>
          refine ⟨k + 1, by omega, by go_num, fun j hj hjk => ?_, ?_⟩
          · rcases Nat.lt_succ_iff_lt_or_eq.1 hjk with h | rfl
            · exact Hyes.out j hj h
            · exact hm
          · exact Below.trans Hwr.out ((box_after hb3).1.mono Hwr.out.size)
        case measure => simp [intOf]; omega
      · have hm : mayI c.items[k] = false := by simpa using hm
        go_wp2_with (go_at_call 24; refine (code_no c.items[k] _ hm).mono ?_; rintro e w3 ⟨rfl, hb3⟩)
        go_ret
        refine ⟨ret_bool (mayC_no hlt hm).symm, ?_⟩
        exact HW0.out.trans ((Below.trans Hwr.out ((box_after hb3).1.mono Hwr.out.size)).mono HW0.out.size)
    · have hall : c.items.all mayI = true := mayC_of_items fun j hj => Hyes.out j hj (by omega)
      have Hall := Lib.hid hall
      have q : ∀ b o, b < W2.heap.size → wr.cell? ⟨b, o, none⟩ = W2.cell? ⟨b, o, none⟩ := fun b o h => Hwr.out.cell (p := ⟨b, o, none⟩) h
      have x0 : wr.cell? ⟨w.heap.size, 0, none⟩ = some (.int .i64 c.op) := (q _ _ hg0).trans ((HX.out 0).trans rfl)
      have x1 : wr.cell? ⟨w.heap.size, 1, none⟩ = some (.int .i64 c.slot) := (q _ _ hg0).trans ((HX.out 1).trans rfl)
      have x2 : wr.cell? ⟨w.heap.size, 2, none⟩ = some (.int .i64 c.a) := (q _ _ hg0).trans ((HX.out 2).trans rfl)
      have x3 : wr.cell? ⟨w.heap.size, 3, none⟩ = some (.int .i64 c.b) := (q _ _ hg0).trans ((HX.out 3).trans rfl)
      have x4 : wr.cell? ⟨w.heap.size, 4, none⟩ = some (.int .i64 c.c) := (q _ _ hg0).trans ((HX.out 4).trans rfl)
      have x7 : wr.cell? ⟨w.heap.size, 7, none⟩ = some (.slice A c.words.length cw) := (q _ _ hg0).trans ((HX.out 7).trans rfl)
      have x8 : wr.cell? ⟨w.heap.size, 8, none⟩ = some (.slice B c.items.length ci) := (q _ _ hg0).trans ((HX.out 8).trans rfl)
      have hs1 : w.heap.size < wr.heap.size := Nat.lt_of_lt_of_le hg0 Hwr.out.size
      have hs2 : w1.heap.size < wr.heap.size := Nat.lt_of_lt_of_le hg1 Hwr.out.size
      have l : ∀ i, wr.cell? ⟨w1.heap.size, i, none⟩ = layoutC[i]? := fun i => (q _ _ hg1).trans (HL.out i)
      have l0 : wr.cell? ⟨w1.heap.size, 0, none⟩ = some (.int .u64 0) := (l 0).trans rfl
      have l1 : wr.cell? ⟨w1.heap.size, 1, none⟩ = some (.int .u64 8) := (l 1).trans rfl
      have l2 : wr.cell? ⟨w1.heap.size, 2, none⟩ = some (.int .i64 255) := (l 2).trans rfl
      have l3 : wr.cell? ⟨w1.heap.size, 3, none⟩ = some (.int .u64 8) := (l 3).trans rfl
      have l4 : wr.cell? ⟨w1.heap.size, 4, none⟩ = some (.int .u64 8) := (l 4).trans rfl
      have l5 : wr.cell? ⟨w1.heap.size, 5, none⟩ = some (.int .i64 18) := (l 5).trans rfl
      have l6 : wr.cell? ⟨w1.heap.size, 6, none⟩ = some (.int .u64 16) := (l 6).trans rfl
      have l7 : wr.cell? ⟨w1.heap.size, 7, none⟩ = some (.int .u64 4) := (l 7).trans rfl
      have l8 : wr.cell? ⟨w1.heap.size, 8, none⟩ = some (.int .i64 8) := (l 8).trans rfl
      have l9 : wr.cell? ⟨w1.heap.size, 9, none⟩ = some (.int .u64 20) := (l 9).trans rfl
      have l10 : wr.cell? ⟨w1.heap.size, 10, none⟩ = some (.int .u64 2) := (l 10).trans rfl
      have l11 : wr.cell? ⟨w1.heap.size, 11, none⟩ = some (.int .i64 2) := (l 11).trans rfl
      have l15 : wr.cell? ⟨w1.heap.size, 15, none⟩ = some (.int .u64 24) := (l 15).trans rfl
      have l16 : wr.cell? ⟨w1.heap.size, 16, none⟩ = some (.int .u64 8) := (l 16).trans rfl
      have l17 : wr.cell? ⟨w1.heap.size, 17, none⟩ = some (.int .i64 255) := (l 17).trans rfl
      have l18 : wr.cell? ⟨w1.heap.size, 18, none⟩ = some (.int .u64 32) := (l 18).trans rfl
      have l19 : wr.cell? ⟨w1.heap.size, 19, none⟩ = some (.int .u64 8) := (l 19).trans rfl
      have l20 : wr.cell? ⟨w1.heap.size, 20, none⟩ = some (.int .i64 255) := (l 20).trans rfl
      have l21 : wr.cell? ⟨w1.heap.size, 21, none⟩ = some (.int .u64 40) := (l 21).trans rfl
      have l22 : wr.cell? ⟨w1.heap.size, 22, none⟩ = some (.int .u64 21) := (l 22).trans rfl
      have l23 : wr.cell? ⟨w1.heap.size, 23, none⟩ = some (.int .i64 1048576) := (l 23).trans rfl
      have hb0 : Below wr.heap.size wr wr := Below.refl _ _
      have hfin : Below w.heap.size w wr := HW0.out.trans (Hwr.out.mono HW0.out.size)
      have hle := hfin.size
      clear q l hall
      go_wp2_with (go_at_call 25; refine (fits_any _ _ _ _ _).mono ?_; rintro e w3 ⟨rfl, hb3⟩; have hb4 : Below wr.heap.size wr w3 := Below.trans (by assumption) (hb3.mono (by first | exact Nat.le_refl _ | exact Below.size (by assumption))); obtain ⟨q3, _⟩ := bcell hb4; clear hb3)
      all_goals (go_ret; refine ⟨ret_bool ?_, hfin.trans (Below.mono (B := wr.heap.size) (by assumption) hle)⟩)
      all_goals (simp only [mayC, Hall.out, Bool.true_and]; rw [Bool.eq_iff_iff]; simp; try omega)
end Go.Proofs.YtmjkljgccaipoaaDoor
