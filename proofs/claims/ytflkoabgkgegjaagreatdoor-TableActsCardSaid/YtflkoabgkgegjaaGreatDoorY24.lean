/- The reference's row in memory. No condition. -/
import Derived.Test.YtflkoabgkgegjaaGreatDoorY19
import Derived.Test.YtflkoabgkgegjaaGreatDoorY7
/- The reference's row in memory. No condition. -/
namespace Go.Proofs.YtflkoabgkgegjaaGreatDoor
open Go.RowKit

/-- the reference at a row: its top order, its two lists -/
structure RB (w : World) (g top : Nat) (A1 : Option Addr) (c1 : Nat) (LF : List (Nat × Nat)) (A2 : Option Addr) (c2 : Nat) (LU : List (Nat × Nat)) : Prop where
  row : HeldS w (some ⟨g, 0, none⟩, [.int .i64 (top : Int), .slice A1 LF.length c1, .slice A2 LU.length c2])
  f : HeldS w (A1, bCells LF)
  u : HeldS w (A2, bCells LU)
  cf : LF.length ≤ c1
  cu : LU.length ≤ c2
theorem HeldS.below {w w' : World} {s : Option Addr × List Value} (h : HeldS w s) (hb : Below w.heap.size w w') : HeldS w' s := h.kept fun b _ _ hh _ => (hb.block b (blt hh)).trans hh
section
variable {w w' : World} {g top : Nat} {A1 A2 : Option Addr} {c1 c2 : Nat} {LF LU : List (Nat × Nat)}
theorem RB.below (h : RB w g top A1 c1 LF A2 c2 LU) (hb : Below w.heap.size w w') : RB w' g top A1 c1 LF A2 c2 LU := ⟨h.row.below hb, h.f.below hb, h.u.below hb, h.cf, h.cu⟩
theorem RB.obj (h : RB w g top A1 c1 LF A2 c2 LU) : ∃ cs, w.heap[g]? = some (.cells cs 138 (0, 0)) ∧ cs[0]? = some (.int .i64 (top : Int)) ∧ cs[1]? = some (.slice A1 LF.length c1) ∧ cs[2]? = some (.slice A2 LU.length c2) := by
  obtain ⟨b, off, cs, t, h1, h2, h3, h4⟩ := h.row (by simp)
  injection h1 with h1
  injection h1 with e1 e2
  subst e1 e2
  have e3 := h3.2
  simp only [tyOf] at e3
  subst e3
  exact ⟨cs, h2, by simpa using h4 0 _ rfl, by simpa using h4 1 _ rfl, by simpa using h4 2 _ rfl⟩
theorem RB.lt (h : RB w g top A1 c1 LF A2 c2 LU) : g < w.heap.size := by
  obtain ⟨cs, h1, _⟩ := h.obj
  exact blt h1
theorem RB.r0 (h : RB w g top A1 c1 LF A2 c2 LU) : w.cell? ⟨g, 0, none⟩ = some (.int .i64 (top : Int)) := by
  obtain ⟨cs, h1, h2, _⟩ := h.obj
  rw [cell_of_row _ _ _ _ _ _ h1, h2]
theorem RB.r1 (h : RB w g top A1 c1 LF A2 c2 LU) : w.cell? ⟨g, 1, none⟩ = some (.slice A1 LF.length c1) := by
  obtain ⟨cs, h1, _, h2, _⟩ := h.obj
  rw [cell_of_row _ _ _ _ _ _ h1, h2]
theorem RB.r2 (h : RB w g top A1 c1 LF A2 c2 LU) : w.cell? ⟨g, 2, none⟩ = some (.slice A2 LU.length c2) := by
  obtain ⟨cs, h1, _, _, h2⟩ := h.obj
  rw [cell_of_row _ _ _ _ _ _ h1, h2]
theorem RB.froz (h : RB w g top A1 c1 LF A2 c2 LU) (i : Nat) : w.frozen? ⟨g, i, none⟩ = false := by
  obtain ⟨cs, h1, _⟩ := h.obj
  exact frozen_of_row _ _ _ _ _ h1
theorem HeldS.grown {s : Option Addr × List Value} {g : Nat} (h : HeldS w s) (hg : w.grownBy w' (some g)) (hne : s.2 ≠ [] → ∀ a, s.1 = some a → a.block ≠ g) : HeldS w' s := fun q => by
  obtain ⟨b, off, cs, t, h1, h2, h3⟩ := h q
  exact ⟨b, off, cs, t, h1, (hg.block b (blt h2) (fun e => hne q _ h1 (by injection e))).trans h2, h3⟩
theorem HeldS.lt {A : Option Addr} {xs : List Value} (h : HeldS w (A, xs)) (hne : xs ≠ []) : ∀ a, A = some a → a.block < w.heap.size := fun a e => by
  obtain ⟨b, off, cs, t, h1, h2, _⟩ := h hne
  simp only at h1
  rw [e] at h1
  injection h1 with h1
  rw [h1]
  exact blt h2
theorem RB.nf (h : RB w g top A1 c1 LF A2 c2 LU) {A : Option Addr} {L : List (Nat × Nat)} (hA : HeldS w (A, bCells L)) : bCells L ≠ [] → ∀ a, A = some a → a.block ≠ g := fun q a e hc => by
  obtain ⟨b, off, cs, t, h1, h2, h3, h4⟩ := hA q
  obtain ⟨cs', h5, _⟩ := h.obj
  simp only at h1 h3
  rw [e] at h1
  injection h1 with h1
  rw [h1] at hc
  simp only at hc
  subst hc
  rw [h2] at h5
  injection h5 with h5
  injection h5 with _ h6
  rw [tyOf_bCells] at h3
  rw [h3.2] at h6
  exact absurd h6 (by decide)
theorem RB.setF (h : RB w g top A1 c1 LF A2 c2 LU) {A : Option Addr} {m c : Nat} {L : List (Nat × Nat)} (hA : HeldS w (A, bCells L)) (hm : m = L.length) (hc : m ≤ c) : RB (w.setCell ⟨g, 1, none⟩ (.slice A m c)) g top A c L A2 c2 LU := by
  subst hm
  have hg : w.grownBy (w.setCell ⟨g, 1, none⟩ (.slice A L.length c)) (some g) := gb_set (World.grownBy.refl _ _) _ _
  obtain ⟨cs, h1, h2, h3, h4⟩ := h.obj
  refine ⟨fun _ => ⟨g, 0, _, _, rfl, heap_setCell_same w g 1 _ _ _ h1, ⟨by decide, rfl⟩, fun j u hu => ?_⟩, hA.grown hg (h.nf hA), h.u.grown hg (h.nf h.u), hc, h.cu⟩
  rw [Nat.zero_add, Array.getElem?_setIfInBounds]
  have l1 : 1 < cs.size := by
    rcases Nat.lt_or_ge 1 cs.size with q | q
    · exact q
    · rw [Array.getElem?_eq_none q] at h3; cases h3
  match j, hu with
  | 0, hu => simpa using h2.trans hu
  | 1, hu => simpa [l1] using hu
  | 2, hu => simpa using h4.trans hu
  | j + 3, hu => simp at hu
theorem RB.setU (h : RB w g top A1 c1 LF A2 c2 LU) {A : Option Addr} {m c : Nat} {L : List (Nat × Nat)} (hA : HeldS w (A, bCells L)) (hm : m = L.length) (hc : m ≤ c) : RB (w.setCell ⟨g, 2, none⟩ (.slice A m c)) g top A1 c1 LF A c L := by
  subst hm
  have hg : w.grownBy (w.setCell ⟨g, 2, none⟩ (.slice A L.length c)) (some g) := gb_set (World.grownBy.refl _ _) _ _
  obtain ⟨cs, h1, h2, h3, h4⟩ := h.obj
  refine ⟨fun _ => ⟨g, 0, _, _, rfl, heap_setCell_same w g 2 _ _ _ h1, ⟨by decide, rfl⟩, fun j u hu => ?_⟩, h.f.grown hg (h.nf h.f), hA.grown hg (h.nf hA), h.cf, hc⟩
  rw [Nat.zero_add, Array.getElem?_setIfInBounds]
  have l2 : 2 < cs.size := by
    rcases Nat.lt_or_ge 2 cs.size with q | q
    · exact q
    · rw [Array.getElem?_eq_none q] at h4; cases h4
  match j, hu with
  | 0, hu => simpa using h2.trans hu
  | 1, hu => simpa using h3.trans hu
  | 2, hu => simpa [l2] using hu
  | j + 3, hu => simp at hu
/-- a block in a row of its own -/
def Bx (w : World) (h : Nat) (X K : Int) : Prop := w.heap[h]? = some (.cells #[.int .i64 X, .int .i64 K] 135 (0, 0))
theorem Bx.below {h : Nat} {X K : Int} (q : Bx w h X K) (hb : Below w.heap.size w w') : Bx w' h X K := (hb.block h (blt q)).trans q
theorem Bx.grown {h g : Nat} {X K : Int} (q : Bx w h X K) (hg : w.grownBy w' (some g)) (hne : h ≠ g) : Bx w' h X K := (hg.block h (blt q) (fun e => hne (by injection e))).trans q
theorem Bx.x0 {h : Nat} {X K : Int} (q : Bx w h X K) : w.cell? ⟨h, 0, none⟩ = some (.int .i64 X) := by rw [cell_of_row _ _ _ _ _ _ q]; rfl
theorem Bx.x1 {h : Nat} {X K : Int} (q : Bx w h X K) : w.cell? ⟨h, 1, none⟩ = some (.int .i64 K) := by rw [cell_of_row _ _ _ _ _ _ q]; rfl
theorem Bx.froz {h : Nat} {X K : Int} (q : Bx w h X K) (i : Nat) : w.frozen? ⟨h, i, none⟩ = false := frozen_of_row _ _ _ _ _ q
theorem Bx.set0 {h : Nat} {X K : Int} (q : Bx w h X K) (Y : Int) : Bx (w.setCell ⟨h, 0, none⟩ (.int .i64 Y)) h Y K := by
  unfold Bx
  rw [heap_setCell_same w h 0 _ _ _ q]
  rfl
theorem Bx.set1 {h : Nat} {X K : Int} (q : Bx w h X K) (Y : Int) : Bx (w.setCell ⟨h, 1, none⟩ (.int .i64 Y)) h X Y := by
  unfold Bx
  rw [heap_setCell_same w h 1 _ _ _ q]
  rfl
theorem RB.nb (h : RB w g top A1 c1 LF A2 c2 LU) {b : Nat} {X K : Int} (q : Bx w b X K) : g ≠ b := fun e => by
  subst e
  obtain ⟨cs, h1, _⟩ := h.obj
  rw [q] at h1
  injection h1 with h1
  injection h1 with _ h2
  exact absurd h2 (by decide)
/-- the reference with a block in a row of its own, that no list lies in -/
structure RX (w0 w : World) (g top b : Nat) (A1 : Option Addr) (c1 : Nat) (LF : List (Nat × Nat)) (A2 : Option Addr) (c2 : Nat) (LU : List (Nat × Nat)) (X K : Int) : Prop where
  rb : RB w g top A1 c1 LF A2 c2 LU
  bx : Bx w b X K
  new : w0.heap.size ≤ b
  nf : LF ≠ [] → ∀ a, A1 = some a → a.block ≠ b
  nu : LU ≠ [] → ∀ a, A2 = some a → a.block ≠ b
  gr : w0.grownBy w (some g)
theorem bCells_ne {L : List (Nat × Nat)} (h : bCells L ≠ []) : L ≠ [] := fun e => h (by rw [e]; rfl)
theorem ne_bCells {L : List (Nat × Nat)} (h : L ≠ []) : bCells L ≠ [] := fun e => h (by
  have := bCells_length L
  rw [e] at this
  exact List.eq_nil_of_length_eq_zero (by simp at this; omega))
variable {w0 : World} {b : Nat} {X K : Int}
theorem RX.below (h : RX w0 w g top b A1 c1 LF A2 c2 LU X K) (hb : Below w.heap.size w w') : RX w0 w' g top b A1 c1 LF A2 c2 LU X K :=
  ⟨h.rb.below hb, h.bx.below hb, h.new, h.nf, h.nu, below_grown h.gr hb⟩
theorem RX.setF (h : RX w0 w g top b A1 c1 LF A2 c2 LU X K) {A : Option Addr} {m c : Nat} {L : List (Nat × Nat)} (hA : HeldS w (A, bCells L)) (hm : m = L.length) (hc : m ≤ c) (hn : L ≠ [] → ∀ a, A = some a → a.block ≠ b) : RX w0 (w.setCell ⟨g, 1, none⟩ (.slice A m c)) g top b A c L A2 c2 LU X K :=
  ⟨h.rb.setF hA hm hc, h.bx.grown (gb_set (World.grownBy.refl _ _) _ _) (h.rb.nb h.bx).symm, h.new, hn, h.nu, gb_set h.gr _ _⟩
theorem RX.setU (h : RX w0 w g top b A1 c1 LF A2 c2 LU X K) {A : Option Addr} {m c : Nat} {L : List (Nat × Nat)} (hA : HeldS w (A, bCells L)) (hm : m = L.length) (hc : m ≤ c) (hn : L ≠ [] → ∀ a, A = some a → a.block ≠ b) : RX w0 (w.setCell ⟨g, 2, none⟩ (.slice A m c)) g top b A1 c1 LF A c L X K :=
  ⟨h.rb.setU hA hm hc, h.bx.grown (gb_set (World.grownBy.refl _ _) _ _) (h.rb.nb h.bx).symm, h.new, h.nf, hn, gb_set h.gr _ _⟩
theorem RX.setB (h : RX w0 w g top b A1 c1 LF A2 c2 LU X K) {w' : World} {X' K' : Int} (hg : w.grownBy w' (some b)) (hb : Bx w' b X' K') : RX w0 w' g top b A1 c1 LF A2 c2 LU X' K' := by
  refine ⟨⟨h.rb.row.grown hg (fun _ a e => ?_), h.rb.f.grown hg (fun q => h.nf (bCells_ne q)), h.rb.u.grown hg (fun q => h.nu (bCells_ne q)), h.rb.cf, h.rb.cu⟩, hb, h.new, h.nf, h.nu, ⟨hg.os.trans h.gr.os, hg.tape.trans h.gr.tape, hg.output.trans h.gr.output, Nat.le_trans h.gr.size hg.size, fun k hk hne => (hg.block k (Nat.lt_of_lt_of_le hk h.gr.size) (fun e => ?_)).trans (h.gr.block k hk hne)⟩⟩
  · injection e with e
    subst e
    exact h.rb.nb h.bx
  · injection e with e
    have := h.new
    omega
theorem RX.set0 (h : RX w0 w g top b A1 c1 LF A2 c2 LU X K) (Y : Int) : RX w0 (w.setCell ⟨b, 0, none⟩ (.int .i64 Y)) g top b A1 c1 LF A2 c2 LU Y K := h.setB (gb_set (World.grownBy.refl _ _) _ _) (h.bx.set0 Y)
theorem RX.set1 (h : RX w0 w g top b A1 c1 LF A2 c2 LU X K) (Y : Int) : RX w0 (w.setCell ⟨b, 1, none⟩ (.int .i64 Y)) g top b A1 c1 LF A2 c2 LU X Y := h.setB (gb_set (World.grownBy.refl _ _) _ _) (h.bx.set1 Y)
theorem RX.start (h : RB w g top A1 c1 LF A2 c2 LU) (X K : Int) {cs : Array Value} (hc : cs = #[.int .i64 X, .int .i64 K]) : RX w (w.alloc (.cells cs 135)) g top w.heap.size A1 c1 LF A2 c2 LU X K := by
  subst hc
  have hb : Below w.heap.size w (w.alloc (.cells #[.int .i64 X, .int .i64 K] 135)) := (Below.refl _ _).alloc (Nat.le_refl _) _
  exact ⟨h.below hb, heap_alloc_new w _, Nat.le_refl _, fun q a e hc => by
    have := h.f.lt (ne_bCells q) a e
    omega, fun q a e hc => by
    have := h.u.lt (ne_bCells q) a e
    omega, below_grown (World.grownBy.refl _ _) hb⟩
end
end Go.Proofs.YtflkoabgkgegjaaGreatDoor
