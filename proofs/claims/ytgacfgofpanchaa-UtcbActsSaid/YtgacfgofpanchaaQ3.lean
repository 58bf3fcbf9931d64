/- What an argument that is a slice of layer 14's acts is in memory. No condition. -/
import Derived.Test.YtgacfgofpanchaaQ2
import Derived.Test.YtgacfgofpanchaaU4
namespace Go.Proofs.Ytgacfgofpanchaa
open Go.ChangeShapes Go.WideShapes Go.ChangeAt Go.RowKit Go.Deep

section
variable {H : Type} {enc : TypeId × Value → H} {w : World} {base : Nat} {spare : Nat → Bool} {held : Bool}
/-- a window, as two cells read -/
theorem open_wndc {fuel : Nat} {cs : List Value} {x : DataW H × List MemPlace} (h : DataW.trod enc Try.prog w base spare held fuel 26 cs = some x) : ∃ b o : Int, cs = [.int .i64 b, .int .i64 o] := by
  obtain ⟨xs, n, _, _, hc, hlen, hf⟩ := DataW.trod_struct Try.underlying26 h
  have hsz : cs.length = 2 := hc.trans (by kernel_rfl)
  match cs, hsz with
  | [v0, v1], _ =>
    have hx : xs.length = 2 := hlen
    match xs, hx with
    | [y0, y1], _ =>
      have c3 : Try.prog.cellsOf 3 = 1 := by kernel_rfl
      have h0 := hf 0 _ rfl
      have h1 := hf 1 _ rfl
      simp [c3] at h0 h1
      obtain ⟨a, e0, _, _⟩ := DataW.trod_int Try.underlying3 (h0.trans rfl)
      obtain ⟨b, e1, _, _⟩ := DataW.trod_int Try.underlying3 (h1.trans rfl)
      simp at e0 e1
      exact ⟨a, b, by rw [e0, e1]⟩
/-- a message, as three cells read -/
theorem open_msgc {fuel : Nat} {cs : List Value} {x : DataW H × List MemPlace} (h : DataW.trod enc Try.prog w base spare held fuel 43 cs = some x) :
    ∃ (m : Msg) (A B : Option Addr) (c d : Nat), cs = [.int .u64 (m.label : Int), .slice A m.words.length c, .slice B m.items.length d] ∧ SlR w A (u64s m.words) ∧ SlR w B (itemCells m.items) ∧ m.words.length ≤ 9223372036854775807 ∧ m.items.length ≤ 9223372036854775807 ∧ MsgR m := by
  obtain ⟨xs, n, _, _, hc, hlen, hf⟩ := DataW.trod_struct Try.underlying43 h
  have hsz : cs.length = 3 := hc.trans (by kernel_rfl)
  match cs, hsz with
  | [v0, v1, v2], _ =>
    have hx : xs.length = 3 := hlen
    match xs, hx with
    | [y0, y1, y2], _ =>
      have c22 : Try.prog.cellsOf 22 = 1 := by kernel_rfl
      have c23 : Try.prog.cellsOf 40 = 1 := by kernel_rfl
      have c24 : Try.prog.cellsOf 41 = 1 := by kernel_rfl
      have h0 := hf 0 _ rfl
      have h1 := hf 1 _ rfl
      have h2 := hf 2 _ rfl
      simp [c22, c23, c24] at h0 h1 h2
      obtain ⟨g, e0, _, wg⟩ := DataW.trod_int Try.underlying22 (h0.trans rfl)
      obtain ⟨lw, A, cw, e1, _, lw1, lw2, hA, _⟩ := open_words (v := v1) (h1.trans rfl)
      obtain ⟨li, B, ci, e2, _, li1, hB⟩ := open_items (v := v2) (h2.trans rfl)
      simp at e0
      have hgb : 0 ≤ g ∧ g < 18446744073709551616 := by
        simp [Lit.wf, IntKind.min, IntKind.max, IntKind.signed, IntKind.bits] at wg
        omega
      refine ⟨⟨g.toNat, lw, li⟩, A, B, cw, ci, ?_, hA, hB, lw1, li1, by show g.toNat < _; omega, lw2⟩
      simp only [e0, e1, e2, Int.toNat_of_nonneg hgb.1]
/-- an act, as nine cells read -/
theorem open_act {fuel : Nat} {cs : List Value} {x : DataW H × List MemPlace} (h : DataW.trod enc Try.prog w base spare held fuel 58 cs = some x) : ∃ i : Act14, cs = i.cells ∧ ActR w i := by
  obtain ⟨xs, n, _, _, hc, hlen, hf⟩ := DataW.trod_struct Try.underlying58 h
  have hsz : cs.length = 9 := hc.trans (by kernel_rfl)
  match cs, hsz with
  | [v0, v1, v2, v3, v4, v5, v6, v7, v8], _ =>
    have hx : xs.length = 6 := hlen
    match xs, hx with
    | [y0, y1, y2, y3, y4, y5], _ =>
      have c3 : Try.prog.cellsOf 3 = 1 := by kernel_rfl
      have c4 : Try.prog.cellsOf 22 = 1 := by kernel_rfl
      have c5 : Try.prog.cellsOf 43 = 3 := by kernel_rfl
      have c6 : Try.prog.cellsOf 26 = 2 := by kernel_rfl
      have h0 := hf 0 _ rfl
      have h1 := hf 1 _ rfl
      have h2 := hf 2 _ rfl
      have h3 := hf 3 _ rfl
      have h4 := hf 4 _ rfl
      have h5 := hf 5 _ rfl
      simp [c3, c4, c5, c6] at h0 h1 h2 h3 h4 h5
      obtain ⟨a, e0, _, _⟩ := DataW.trod_int Try.underlying3 (h0.trans rfl)
      obtain ⟨b, e1, _, wb⟩ := DataW.trod_int Try.underlying3 (h1.trans rfl)
      obtain ⟨c, e2, _, wc⟩ := DataW.trod_int Try.underlying3 (h2.trans rfl)
      obtain ⟨d, e3, _, wd⟩ := DataW.trod_int Try.underlying22 (h3.trans rfl)
      obtain ⟨m, A, B, ca, cb, e4, sA, sB, l1, l2, mr⟩ := open_msgc (h4.trans rfl)
      obtain ⟨p, q, e5⟩ := open_wndc (h5.trans rfl)
      simp at e0 e1 e2 e3 e4 e5
      simp [Lit.wf, IntKind.min, IntKind.max, IntKind.signed, IntKind.bits] at wb wc wd
      obtain ⟨d, rfl⟩ := Int.eq_ofNat_of_zero_le (show 0 ≤ d by omega)
      obtain ⟨e40, e41, e42⟩ := e4
      obtain ⟨e50, e51⟩ := e5
      exact ⟨⟨a, b, c, d, m, A, ca, B, cb, ⟨p, q⟩⟩, by simp [Act14.cells, e0, e1, e2, e3, e40, e41, e42, e50, e51], sA, sB, mr, by show d < _; omega, l1, l2, ⟨by show _ ≤ c; omega, by show c ≤ _; omega⟩, ⟨by show _ ≤ b; omega, by show b ≤ _; omega⟩⟩
/-- a slice of acts -/
theorem open_acts {fuel : Nat} {v : Value} {x : DataW H × List MemPlace} (h : DataW.trod enc Try.prog w base spare held fuel 35 [v] = some x) :
    ∃ (l : List Act14) (A : Option Addr) (cap : Nat), v = .slice A l.length cap ∧ ActsR w A l := by
  rcases open_slice Try.underlying35 h with ⟨hcs, _⟩ | ⟨a, len, cap, m, n, D, Pl, hcs, _, hl, hm, hmm, _, hi⟩
  · injection hcs with hv
    exact ⟨[], none, 0, hv, fun h => absurd rfl h, (fun x hx => absurd hx List.not_mem_nil), by simp⟩
  · injection hcs with hv
    unfold maxLen at hm
    have hlm : len ≤ m := by rw [hmm]; split <;> omega
    have c5 : Try.prog.cellsOf 58 = 9 := by kernel_rfl
    have each : ∀ i, i < len → ∃ it : Act14, ActR w it ∧ ∀ j, j < 9 → w.cell? (a.add (i * 9 + j)) = it.cells[j]? := by
      intro i hil
      obtain ⟨cs', hc, ht⟩ := hi i (by omega)
      rw [c5] at hc
      obtain ⟨it, rfl, hr⟩ := open_act ht
      obtain ⟨_, _, hat⟩ := World.cells?_some hc
      refine ⟨it, hr, fun j hj => ?_⟩
      rw [← Go.Deep.add_add]
      exact hat j hj
    have hL : ∀ k, k ≤ len → ∃ l : List Act14, l.length = k ∧ (∀ x ∈ l, ActR w x) ∧ ∀ (i : Nat) (it : Act14), l[i]? = some it → ∀ j, j < 9 → w.cell? (a.add (i * 9 + j)) = it.cells[j]? := by
      intro k
      induction k with
      | zero => exact fun _ => ⟨[], rfl, (fun x hx => absurd hx List.not_mem_nil), fun i it h => by simp at h⟩
      | succ k ih =>
        intro hk
        obtain ⟨l, hl1, hlr, hl2⟩ := ih (by omega)
        obtain ⟨it, hr, hit⟩ := each k (by omega)
        refine ⟨l ++ [it], by simp [hl1], fun x hx => ?_, fun i jt h j hj => ?_⟩
        · rcases List.mem_append.1 hx with h | h
          · exact hlr x h
          · rw [List.mem_singleton.1 h]; exact hr
        rcases Nat.lt_or_ge i k with h1 | h1
        · rw [List.getElem?_append_left (by omega)] at h
          exact hl2 i jt h j hj
        · have : i = k := by
            rcases Nat.lt_or_ge k i with h2 | h2
            · rw [List.getElem?_eq_none (by simp; omega)] at h; cases h
            · omega
          subst this
          rw [List.getElem?_append_right (by omega), hl1] at h
          simp at h
          subst h
          exact hit j hj
    obtain ⟨l, hl1, hlr, hl2⟩ := hL len (Nat.le_refl _)
    refine ⟨l, some a, cap, by rw [hl1]; exact hv, fun hne => ?_, hlr, by rw [hl1]; omega⟩
    have h0 : 0 < len := by
      rcases Nat.eq_zero_or_pos len with h0 | h0
      · exfalso; apply hne
        have : l = [] := List.eq_nil_of_length_eq_zero (by omega)
        rw [this]; rfl
      · exact h0
    have hfirst := hl2 0 l[0] (List.getElem?_eq_getElem (by omega)) 0 (by omega)
    obtain ⟨ea, hb⟩ := addr_of_cell (hfirst.trans rfl)
    have ea' : a = ⟨a.block, a.off, none⟩ := by
      obtain ⟨b, o, s⟩ := a
      simpa [Addr.add] using ea
    refine ⟨a.block, a.off, by rw [← ea'], by simpa [Addr.add] using hb, fun j u hu => ?_⟩
    have hj : j < len * 9 := by
      rcases Nat.lt_or_ge j (len * 9) with h1 | h1
      · exact h1
      · rw [List.getElem?_eq_none (by rw [actCells_length, hl1]; exact h1)] at hu; cases hu
    have hi1 : j / 9 < l.length := by omega
    have hc := hl2 (j / 9) l[j / 9] (List.getElem?_eq_getElem hi1) (j % 9) (by omega)
    have hat := actCells_get l (j / 9) (j % 9) hi1 (by omega)
    rw [show j / 9 * 9 + j % 9 = j by omega] at hc hat
    rw [ea', add_off] at hc
    rw [hc, ← hat, hu]
end
end Go.Proofs.Ytgacfgofpanchaa
