/- The table of Asks holds what the rows list. -/
import Derived.Test.YtmjkljgccaipoaaDoorC1
import Derived.Test.YtmjkljgccaipoaaDoorRows
import Derived.OpenShut
import Derived.WalkKit
namespace Go.Proofs.YtmjkljgccaipoaaDoor
open Go.ChangeShapes Go.WideShapes Go.ChangeAt Go.RowKit Go.Deep

theorem gTab : Tryd.prog.globalNamed "quartermaster/calls.table" = some 0 := by kernel_rfl
theorem gTabType : (Tryd.prog.globals[0]?).map (·.type) = some 68 := by kernel_rfl

section
variable {H : Type} {enc : TypeId × Value → H} {w : World} {base : Nat} {spare : Nat → Bool} {held : Bool}
theorem open_asked {fuel : Nat} {cs : List Value} {x : DataW H × List MemPlace} (h : DataW.trod enc Tryd.prog w base spare held fuel 67 cs = some x) : ∃ (a b : Int) (c : Bool), cs = [.int .i64 a, .int .i64 b, .bool c] ∧ x.1 = .agg [.lit (.int .i64 a), .lit (.int .i64 b), .lit (.bool c)] := by
  obtain ⟨xs, n, _, hx, hc, hlen, hf⟩ := DataW.trod_struct Tryd.underlying67 h
  have hsz : cs.length = 3 := hc.trans (by kernel_rfl)
  match cs, hsz with
  | [v0, v1, v2], _ =>
    have hx3 : xs.length = 3 := hlen
    match xs, hx3 with
    | [y0, y1, y2], _ =>
      have c3 : Tryd.prog.cellsOf 3 = 1 := by kernel_rfl
      have c4 : Tryd.prog.cellsOf 4 = 1 := by kernel_rfl
      have h0 := hf 0 _ rfl
      have h1 := hf 1 _ rfl
      have h2 := hf 2 _ rfl
      simp [c3, c4] at h0 h1 h2
      obtain ⟨a, e0, f0, _⟩ := DataW.trod_int Tryd.underlying3 (h0.trans rfl)
      obtain ⟨b, e1, f1, _⟩ := DataW.trod_int Tryd.underlying3 (h1.trans rfl)
      obtain ⟨g, e2, f2⟩ := DataW.trod_bool Tryd.underlying4 (h2.trans rfl)
      simp at e0 e1 e2
      refine ⟨a, b, g, by simp [e0, e1, e2], ?_⟩
      rw [hx]
      simp [f0, f1, f2]
end

theorem tab_of_laid {W : World} (h : laidMetH Tryd.prog Rows.callAsksRow.laid W) : TabAt W := by
  obtain ⟨ps, ⟨g', t', cs, fuel, p, q, hg', ht', hvar, hd, _, _⟩, _⟩ := (h : laidMet _ _ _)
  obtain rfl := Option.some.inj (gTab.symm.trans hg')
  obtain rfl := Option.some.inj (gTabType.symm.trans ht')
  obtain ⟨xs, m, rfl, hx, hlen, hn, hel⟩ := DataW.trod_array Tryd.underlying68 hd
  have c67 : Tryd.prog.cellsOf 67 = 3 := by kernel_rfl
  have hl : ∃ l, (Rows.laid_quartermaster_calls_table : DataW Unit) = .agg l ∧ l = askRows.map fun t => .agg [.lit (.int .i64 t.1), .lit (.int .i64 t.2.1), .lit (.bool t.2.2)] := ⟨_, rfl, rfl⟩
  obtain ⟨l, hl1, hl2⟩ := hl
  simp only [Prod.mk.injEq] at hx
  rw [hl1] at hx
  have hmap : l = xs.map (·.1) := by
    have := hx.1
    injection this
  intro k hk
  have hxk : xs[k]? = some xs[k] := List.getElem?_eq_getElem (by omega)
  have h := (hel k hk).trans hxk
  obtain ⟨a, b, c, hc, hd2⟩ := open_asked h
  rw [c67] at hc
  have hak : askRows[k]? = some (askRows.getD k (0, 0, false)) := by
    have : k < askRows.length := hk
    simp [List.getD, List.getElem?_eq_getElem this]
  have hrow : (xs.map (·.1))[k]? = some (.agg [.lit (.int .i64 (askRows.getD k (0, 0, false)).1), .lit (.int .i64 (askRows.getD k (0, 0, false)).2.1), .lit (.bool (askRows.getD k (0, 0, false)).2.2)]) := by
    rw [← hmap, hl2, List.getElem?_map, hak]; rfl
  rw [List.getElem?_map, hxk] at hrow
  simp only [Option.map_some, Option.some.injEq] at hrow
  rw [hd2] at hrow
  simp only [DataW.agg.injEq, List.cons.injEq, DataW.lit.injEq, Lit.int.injEq, Lit.bool.injEq, true_and, and_true] at hrow
  obtain ⟨e1, e2, e3⟩ := hrow
  rw [← e1, ← e2, ← e3]
  have cell : ∀ j u, ([.int .i64 a, .int .i64 b, .bool c] : List Value)[j]? = some u → W.cell? ⟨0, k * 3 + j, none⟩ = some u := by
    intro j u hu
    rw [World.var?_cell gTab hvar, ← hc] at *
    rw [List.getElem?_take] at hu
    split at hu
    · rw [List.getElem?_drop] at hu
      simpa using hu
    · cases hu
  exact ⟨cell 0 _ rfl, cell 1 _ rfl, cell 2 _ rfl⟩
end Go.Proofs.YtmjkljgccaipoaaDoor
