/- What an argument that is words, an item, a window or a message is in memory. No condition. -/
import Derived.Test.YtgacfgofpanchaaQ1
import Derived.Test.YtgacfgofpanchaaU2
import Derived.Test.YtgacfgofpanchaaK17
namespace Go.Proofs.Ytgacfgofpanchaa
open Go.ChangeShapes Go.WideShapes Go.ChangeAt Go.RowKit Go.Deep

section
variable {H : Type} {enc : TypeId × Value → H} {w : World} {base : Nat} {spare : Nat → Bool} {held : Bool}
/-- a slice of words -/
theorem open_words {fuel : Nat} {v : Value} {x : DataW H × List MemPlace} (h : DataW.trod enc Try.prog w base spare held fuel 40 [v] = some x) :
    ∃ (l : List Nat) (A : Option Addr) (cap : Nat), v = .slice A l.length cap ∧ l.length ≤ cap ∧ l.length ≤ 9223372036854775807 ∧ (∀ x ∈ l, x < 18446744073709551616) ∧ SlR w A (u64s l) ∧ (A = none → cap = 0) := by
  rcases open_ints Try.underlying40 Try.underlying22 (by kernel_rfl) h with ⟨hcs, _⟩ | ⟨a, len, cap, zs, hcs, _, hl, hm, hz, _, hcell, hwf⟩
  · injection hcs with hv
    exact ⟨[], none, 0, hv, Nat.le_refl _, by simp, by simp, fun h => absurd rfl h, fun _ => rfl⟩
  · injection hcs with hv
    have hlen : len ≤ zs.length := by rw [hz]; split <;> omega
    have hL : ((zs.take len).map Int.toNat).length = len := by simp; omega
    unfold maxLen at hm
    have hpos : ∀ z ∈ zs, 0 ≤ z ∧ z < 18446744073709551616 := fun z hz => by
      have := hwf z hz
      simp [Lit.wf, IntKind.min, IntKind.max, IntKind.signed, IntKind.bits] at this
      omega
    refine ⟨(zs.take len).map Int.toNat, some a, cap, by rw [hL]; exact hv, by rw [hL]; exact hl, by rw [hL]; omega, ?_, ?_, fun h => by cases h⟩
    · intro x hx
      obtain ⟨z, hz, rfl⟩ := List.mem_map.1 hx
      have := hpos z (List.mem_of_mem_take hz)
      omega
    · intro hne
      have h0 : 0 < len := by
        rcases Nat.eq_zero_or_pos len with h0 | h0
        · exfalso; apply hne; simp [u64s, h0]
        · exact h0
      obtain ⟨ea, hb⟩ := addr_of_cell (hcell 0 (by omega))
      have ea' : a = ⟨a.block, a.off, none⟩ := by
        obtain ⟨b, o, s⟩ := a
        simpa [Addr.add] using ea
      refine ⟨a.block, a.off, by rw [← ea'], by simpa [Addr.add] using hb, fun j u hu => ?_⟩
      have hj : j < len := by
        rcases Nat.lt_or_ge j len with h1 | h1
        · exact h1
        · rw [List.getElem?_eq_none (by simp [u64s]; omega)] at hu; cases hu
      have hzj : j < zs.length := by omega
      have := hcell j hzj
      rw [ea', add_off] at this
      rw [this, ← hu]
      have e1 : zs.getD j 0 = zs[j] := by simp [List.getD, List.getElem?_eq_getElem hzj]
      have e2 := hpos zs[j] (List.getElem_mem hzj)
      rw [e1]
      simp only [u64s, List.getElem?_map, List.getElem?_take_of_lt hj, List.getElem?_eq_getElem hzj, Option.map_some]
      rw [Int.toNat_of_nonneg e2.1]
theorem itemCells_len (l : List Itm) : (itemCells l).length = l.length * 5 := itemCells_length l
/-- an item, as five cells read -/
theorem open_item {fuel : Nat} {cs : List Value} {x : DataW H × List MemPlace} (h : DataW.trod enc Try.prog w base spare held fuel 24 cs = some x) : ∃ i : Itm, cs = i.cells := by
  obtain ⟨xs, n, _, _, hc, hlen, hf⟩ := DataW.trod_struct Try.underlying24 h
  have hsz : cs.length = 5 := hc.trans (by kernel_rfl)
  match cs, hsz with
  | [v0, v1, v2, v3, v4], _ =>
    have hx : xs.length = 5 := hlen
    match xs, hx with
    | [y0, y1, y2, y3, y4], _ =>
      have c3 : Try.prog.cellsOf 3 = 1 := by kernel_rfl
      have c4 : Try.prog.cellsOf 4 = 1 := by kernel_rfl
      have h0 := hf 0 _ rfl
      have h1 := hf 1 _ rfl
      have h2 := hf 2 _ rfl
      have h3 := hf 3 _ rfl
      have h4 := hf 4 _ rfl
      simp [c3, c4] at h0 h1 h2 h3 h4
      obtain ⟨a, e0, _, _⟩ := DataW.trod_int Try.underlying3 (h0.trans rfl)
      obtain ⟨b, e1, _, _⟩ := DataW.trod_int Try.underlying3 (h1.trans rfl)
      obtain ⟨c, e2, _, _⟩ := DataW.trod_int Try.underlying3 (h2.trans rfl)
      obtain ⟨d, e3, _, _⟩ := DataW.trod_int Try.underlying3 (h3.trans rfl)
      obtain ⟨g, e4, _⟩ := DataW.trod_bool Try.underlying4 (h4.trans rfl)
      simp at e0 e1 e2 e3 e4
      exact ⟨⟨a, b, c, d, g⟩, by simp [Itm.cells, e0, e1, e2, e3, e4]⟩
/-- a slice of items -/
theorem open_items {fuel : Nat} {v : Value} {x : DataW H × List MemPlace} (h : DataW.trod enc Try.prog w base spare held fuel 41 [v] = some x) :
    ∃ (l : List Itm) (A : Option Addr) (cap : Nat), v = .slice A l.length cap ∧ l.length ≤ cap ∧ l.length ≤ 9223372036854775807 ∧ SlR w A (itemCells l) := by
  rcases open_slice Try.underlying41 h with ⟨hcs, _⟩ | ⟨a, len, cap, m, n, D, Pl, hcs, _, hl, hm, hmm, _, hi⟩
  · injection hcs with hv
    exact ⟨[], none, 0, hv, Nat.le_refl _, by simp, fun h => absurd rfl h⟩
  · injection hcs with hv
    unfold maxLen at hm
    have hlm : len ≤ m := by rw [hmm]; split <;> omega
    have c5 : Try.prog.cellsOf 24 = 5 := by kernel_rfl
    have each : ∀ i, i < len → ∃ it : Itm, ∀ j, j < 5 → w.cell? (a.add (i * 5 + j)) = it.cells[j]? := by
      intro i hil
      obtain ⟨cs', hc, ht⟩ := hi i (by omega)
      rw [c5] at hc
      obtain ⟨it, rfl⟩ := open_item ht
      obtain ⟨_, _, hat⟩ := World.cells?_some hc
      refine ⟨it, fun j hj => ?_⟩
      rw [← Go.Deep.add_add]
      exact hat j hj
    have hL : ∀ k, k ≤ len → ∃ l : List Itm, l.length = k ∧ ∀ (i : Nat) (it : Itm), l[i]? = some it → ∀ j, j < 5 → w.cell? (a.add (i * 5 + j)) = it.cells[j]? := by
      intro k
      induction k with
      | zero => exact fun _ => ⟨[], rfl, fun i it h => by simp at h⟩
      | succ k ih =>
        intro hk
        obtain ⟨l, hl1, hl2⟩ := ih (by omega)
        obtain ⟨it, hit⟩ := each k (by omega)
        refine ⟨l ++ [it], by simp [hl1], fun i jt h j hj => ?_⟩
        rcases Nat.lt_or_ge i k with h1 | h1
        · rw [List.getElem?_append_left (by omega)] at h
          exact hl2 i jt h j hj
        · have : i = k := by
            rcases Nat.lt_or_ge k i with h2 | h2
            · rw [List.getElem?_eq_none (by simp; omega)] at h; cases h
            · omega
          subst this
          rw [List.getElem?_append_right (by omega), hl1] at h
          simp at h
          subst h
          exact hit j hj
    obtain ⟨l, hl1, hl2⟩ := hL len (Nat.le_refl _)
    refine ⟨l, some a, cap, by rw [hl1]; exact hv, by rw [hl1]; exact hl, by rw [hl1]; omega, fun hne => ?_⟩
    have h0 : 0 < len := by
      rcases Nat.eq_zero_or_pos len with h0 | h0
      · exfalso; apply hne
        have : l = [] := List.eq_nil_of_length_eq_zero (by omega)
        rw [this]; rfl
      · exact h0
    have hfirst := hl2 0 l[0] (List.getElem?_eq_getElem (by omega)) 0 (by omega)
    obtain ⟨ea, hb⟩ := addr_of_cell (hfirst.trans rfl)
    have ea' : a = ⟨a.block, a.off, none⟩ := by
      obtain ⟨b, o, s⟩ := a
      simpa [Addr.add] using ea
    refine ⟨a.block, a.off, by rw [← ea'], by simpa [Addr.add] using hb, fun j u hu => ?_⟩
    have hj : j < len * 5 := by
      rcases Nat.lt_or_ge j (len * 5) with h1 | h1
      · exact h1
      · rw [List.getElem?_eq_none (by rw [itemCells_len, hl1]; exact h1)] at hu; cases hu
    have hi1 : j / 5 < l.length := by omega
    have hc := hl2 (j / 5) l[j / 5] (List.getElem?_eq_getElem hi1) (j % 5) (by omega)
    have hat := itemCells_at l (j / 5) (j % 5) l[j / 5] (List.getElem?_eq_getElem hi1) (by omega)
    rw [show j / 5 * 5 + j % 5 = j by omega] at hc hat
    rw [ea', add_off] at hc
    rw [hc, ← hat, hu]

/-- an item, by value -/
theorem open_itemv {r : Reach} {b0 : Nat} {v : Value} {d : DataW H} {p : List MemPlace} (hv : Value.okWide Try.prog w r b0 24 v) (h : DataW.Trod enc Try.prog w base spare held 24 v d p) :
    ∃ i : Itm, v = .agg #[.int .i64 i.base, .int .i64 i.order, .int .i64 i.rights, .int .i64 i.off, .bool i.grant] := by
  obtain ⟨cs, rfl, hsz⟩ := okWide_struct Try.underlying24 hv
  obtain ⟨l⟩ := cs
  obtain ⟨fuel, hf⟩ := h
  obtain ⟨i, hi⟩ := open_item hf
  refine ⟨i, ?_⟩
  have : l = i.cells := hi
  rw [this]
  rfl
/-- a window, by value -/
theorem open_wnd {r : Reach} {b0 : Nat} {v : Value} {d : DataW H} {p : List MemPlace} (hv : Value.okWide Try.prog w r b0 26 v) (h : DataW.Trod enc Try.prog w base spare held 26 v d p) :
    ∃ b o : Int, v = .agg #[.int .i64 b, .int .i64 o] := by
  obtain ⟨cs, rfl, hsz⟩ := okWide_struct Try.underlying26 hv
  have hsz' : cs.size = 2 := hsz.trans (by kernel_rfl)
  obtain ⟨l⟩ := cs
  match l, hsz' with
  | [v0, v1], _ =>
    obtain ⟨fuel, hf⟩ := h
    obtain ⟨xs, n, _, _, _, hlen, hg⟩ := DataW.trod_struct Try.underlying26 hf
    have hx : xs.length = 2 := hlen
    match xs, hx with
    | [y0, y1], _ =>
      have c3 : Try.prog.cellsOf 3 = 1 := by kernel_rfl
      have h0 := hg 0 _ rfl
      have h1 := hg 1 _ rfl
      simp [c3] at h0 h1
      obtain ⟨a, e0, _, _⟩ := DataW.trod_int Try.underlying3 (h0.trans rfl)
      obtain ⟨b, e1, _, _⟩ := DataW.trod_int Try.underlying3 (h1.trans rfl)
      simp [Value.cells] at e0 e1
      exact ⟨a, b, by simp only [e0, e1]⟩
/-- a message, by value -/
theorem open_msgv {r : Reach} {b0 : Nat} {v : Value} {d : DataW H} {p : List MemPlace} (hv : Value.okWide Try.prog w r b0 43 v) (h : DataW.Trod enc Try.prog w base spare held 43 v d p) :
    ∃ (m : Msg) (A B : Option Addr) (c d : Nat), v = .agg #[.int .u64 (m.label : Int), .slice A m.words.length c, .slice B m.items.length d] ∧ SlR w A (u64s m.words) ∧ SlR w B (itemCells m.items) ∧ m.words.length ≤ 9223372036854775807 ∧ m.items.length ≤ 9223372036854775807 ∧ MsgR m := by
  obtain ⟨cs, rfl, hsz⟩ := okWide_struct Try.underlying43 hv
  have hsz' : cs.size = 3 := hsz.trans (by kernel_rfl)
  obtain ⟨l⟩ := cs
  match l, hsz' with
  | [v0, v1, v2], _ =>
    obtain ⟨fuel, hf⟩ := h
    obtain ⟨xs, n, _, _, _, hlen, hg⟩ := DataW.trod_struct Try.underlying43 hf
    have hx : xs.length = 3 := hlen
    match xs, hx with
    | [y0, y1, y2], _ =>
      have c22 : Try.prog.cellsOf 22 = 1 := by kernel_rfl
      have c23 : Try.prog.cellsOf 40 = 1 := by kernel_rfl
      have c24 : Try.prog.cellsOf 41 = 1 := by kernel_rfl
      have h0 := hg 0 _ rfl
      have h1 := hg 1 _ rfl
      have h2 := hg 2 _ rfl
      simp [c22, c23, c24] at h0 h1 h2
      obtain ⟨g, e0, _, wg⟩ := DataW.trod_int Try.underlying22 (h0.trans rfl)
      obtain ⟨lw, A, cw, e1, _, lw1, lw2, hA, _⟩ := open_words (v := v1) (h1.trans rfl)
      obtain ⟨li, B, ci, e2, _, li1, hB⟩ := open_items (v := v2) (h2.trans rfl)
      simp [Value.cells] at e0 e1 e2
      have hgb : 0 ≤ g ∧ g < 18446744073709551616 := by
        simp [Lit.wf, IntKind.min, IntKind.max, IntKind.signed, IntKind.bits] at wg
        omega
      refine ⟨⟨g.toNat, lw, li⟩, A, B, cw, ci, ?_, hA, hB, lw1, li1, by show g.toNat < _; omega, lw2⟩
      simp only [e0, e1, e2, Int.toNat_of_nonneg hgb.1]
end
end Go.Proofs.Ytgacfgofpanchaa
