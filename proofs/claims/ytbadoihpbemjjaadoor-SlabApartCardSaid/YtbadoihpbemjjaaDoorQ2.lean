/- What an argument that is a slice of acts is in memory. No condition. -/
import Derived.Test.YtbadoihpbemjjaaDoorQ1
import Derived.Test.YtbadoihpbemjjaaDoorW6
namespace Go.Proofs.YtbadoihpbemjjaaDoor
open Go.ChangeShapes Go.WideShapes Go.ChangeAt Go.RowKit Go.Deep

section
variable {H : Type} {enc : TypeId × Value → H} {w : World} {base : Nat} {spare : Nat → Bool} {held : Bool}
/- an act, as two cells read -/
set_option maxRecDepth 100000 in
theorem open_act {fuel : Nat} {cs : List Value} {x : DataW H × List MemPlace} (h : DataW.trod enc Tryd.prog w base spare held fuel 45 cs = some x) :
    ∃ (f g : Int), cs = [.int .i64 f, .int .i64 g] ∧ (Lit.int .i64 g).wf = true := by
  obtain ⟨xs, n, _, _, hc, hlen, hf⟩ := DataW.trod_struct Tryd.underlying45 h
  have hsz : cs.length = 2 := hc.trans (by kernel_rfl)
  match cs, hsz with
  | [v0, v1], _ =>
    have hx : xs.length = 2 := hlen
    match xs, hx with
    | [y0, y1], _ =>
      have c3 : Tryd.prog.cellsOf 3 = 1 := by kernel_rfl
      have h0 := hf 0 _ rfl
      have h1 := hf 1 _ rfl
      simp [c3] at h0 h1
      obtain ⟨f, e2, _, _⟩ := DataW.trod_int Tryd.underlying3 (h0.trans rfl)
      obtain ⟨g, e3, _, hw⟩ := DataW.trod_int Tryd.underlying3 (h1.trans rfl)
      simp at e2 e3
      exact ⟨f, g, by simp [e2, e3], hw⟩
/- a slice of acts -/
set_option maxRecDepth 100000 in
theorem open_acts {fuel : Nat} {v : Value} {x : DataW H × List MemPlace} (h : DataW.trod enc Tryd.prog w base spare held fuel 37 [v] = some x) :
    ∃ (l : List (Int × Int)) (A : Option Addr) (cap : Nat), v = .slice A l.length cap ∧ SlR w A (actCells l) ∧ ∀ x ∈ l, (Lit.int .i64 x.2).wf = true := by
  rcases open_slice Tryd.underlying37 h with ⟨hcs, _⟩ | ⟨a, len, cap, m, n, D, Pl, hcs, _, hl, hm, hmm, _, hi⟩
  · injection hcs with hv
    exact ⟨[], none, 0, hv, SlR.nil _ _, fun x hx => absurd hx List.not_mem_nil⟩
  · injection hcs with hv
    have hlm : len ≤ m := by rw [hmm]; split <;> omega
    have c4 : Tryd.prog.cellsOf 45 = 2 := by kernel_rfl
    have each : ∀ i, i < len → ∃ (y : Int × Int), w.cell? (a.add (i * 2)) = some (.int .i64 y.1) ∧ w.cell? (a.add (i * 2 + 1)) = some (.int .i64 y.2) ∧ (Lit.int .i64 y.2).wf = true := by
      intro i hil
      obtain ⟨cs', hc, ht⟩ := hi i (by omega)
      rw [c4] at hc
      obtain ⟨f, g, rfl, hw⟩ := open_act ht
      obtain ⟨_, _, hat⟩ := World.cells?_some hc
      refine ⟨(f, g), ?_, ?_, hw⟩
      · have := hat 0 (by omega)
        rw [Go.Deep.add_add] at this
        exact this
      · have := hat 1 (by omega)
        rw [Go.Deep.add_add] at this
        exact this
    have hch : ∃ Y : Nat → Int × Int, ∀ i, i < len → w.cell? (a.add (i * 2)) = some (.int .i64 (Y i).1) ∧ w.cell? (a.add (i * 2 + 1)) = some (.int .i64 (Y i).2) ∧ (Lit.int .i64 (Y i).2).wf = true := by
      refine ⟨fun i => if h : i < len then (each i h).choose else (0, 0), fun i hil => ?_⟩
      simp only [dif_pos hil]
      exact (each i hil).choose_spec
    obtain ⟨Y, hY⟩ := hch
    refine ⟨(List.range len).map Y, some a, cap, by rw [List.length_map, List.length_range]; exact hv, fun hne => ?_, fun x hx => ?_⟩
    · have h0 : 0 < len := by
        rcases Nat.eq_zero_or_pos len with h0 | h0
        · exfalso; apply hne; subst h0; rfl
        · exact h0
      obtain ⟨ea, hb⟩ := addr_of_cell (hY 0 h0).1
      have ea' : a = ⟨a.block, a.off, none⟩ := by
        obtain ⟨b, o, s⟩ := a
        simpa [Addr.add] using ea
      refine ⟨a.block, a.off, by rw [← ea'], by simpa [Addr.add] using hb, fun j u hu => ?_⟩
      have hj : j < len * 2 := by
        have := actCells_length ((List.range len).map Y)
        simp only [List.length_map, List.length_range] at this
        rcases Nat.lt_or_ge j (len * 2) with h1 | h1
        · exact h1
        · rw [List.getElem?_eq_none (by omega)] at hu; cases hu
      have hq : j / 2 < len := by omega
      have hat := actCells_at ((List.range len).map Y) (j / 2) (Y (j / 2)) (by simp [hq])
      obtain ⟨g1, g2, _⟩ := hY (j / 2) hq
      rw [ea', add_off] at g1 g2
      by_cases e : j % 2 = 0
      · have e2 : j / 2 * 2 = j := by omega
        rw [e2] at hat g1
        rw [hat.1] at hu
        rw [← Option.some.inj hu]
        exact g1
      · have e2 : j / 2 * 2 + 1 = j := by omega
        rw [e2] at hat g2
        rw [hat.2] at hu
        rw [← Option.some.inj hu]
        exact g2
    · obtain ⟨i, hi2, rfl⟩ := List.mem_map.1 hx
      exact (hY i (List.mem_range.1 hi2)).2.2
end
end Go.Proofs.YtbadoihpbemjjaaDoor
