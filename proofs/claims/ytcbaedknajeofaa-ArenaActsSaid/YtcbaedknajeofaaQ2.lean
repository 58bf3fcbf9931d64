/- What an argument that is a slice of words, or of bytes, is in memory. No condition. -/
import Derived.Test.YtcbaedknajeofaaQ1
namespace Go.Proofs.Ytcbaedknajeofaa
open Go.ChangeShapes Go.WideShapes Go.ChangeAt Go.RowKit Go.Deep

section
variable {H : Type} {enc : TypeId × Value → H} {w : World} {base : Nat} {spare : Nat → Bool} {held : Bool}

/-- a slice of words -/
theorem open_words {fuel : Nat} {v : Value} {x : DataW H × List MemPlace} (h : DataW.trod enc Try.prog w base spare held fuel 41 [v] = some x) :
    ∃ (l : List Nat) (A : Option Addr) (cap : Nat), v = .slice A l.length cap ∧ l.length ≤ cap ∧ l.length ≤ 9223372036854775807 ∧ (∀ x ∈ l, x < 18446744073709551616) ∧ SlR w A (u64s l) ∧ (A = none → cap = 0) := by
  rcases open_ints Try.underlying41 Try.underlying28 (by kernel_rfl) h with ⟨hcs, _⟩ | ⟨a, len, cap, zs, hcs, _, hl, hm, hz, _, hcell, hwf⟩
  · injection hcs with hv
    exact ⟨[], none, 0, hv, Nat.le_refl _, by simp, by simp, fun h => absurd rfl h, fun _ => rfl⟩
  · injection hcs with hv
    have hlen : len ≤ zs.length := by rw [hz]; split <;> omega
    have hL : ((zs.take len).map Int.toNat).length = len := by simp; omega
    unfold maxLen at hm
    have hpos : ∀ z ∈ zs, 0 ≤ z ∧ z < 18446744073709551616 := fun z hz => by
      have := hwf z hz
      simp [Lit.wf, IntKind.min, IntKind.max, IntKind.signed, IntKind.bits] at this
      omega
    refine ⟨(zs.take len).map Int.toNat, some a, cap, by rw [hL]; exact hv, by rw [hL]; exact hl, by rw [hL]; omega, ?_, ?_, fun h => by cases h⟩
    · intro x hx
      obtain ⟨z, hz, rfl⟩ := List.mem_map.1 hx
      have := hpos z (List.mem_of_mem_take hz)
      omega
    · intro hne
      have h0 : 0 < len := by
        rcases Nat.eq_zero_or_pos len with h0 | h0
        · exfalso; apply hne; simp [u64s, h0]
        · exact h0
      obtain ⟨ea, hb⟩ := addr_of_cell (hcell 0 (by omega))
      have ea' : a = ⟨a.block, a.off, none⟩ := by
        obtain ⟨b, o, s⟩ := a
        simpa [Addr.add] using ea
      refine ⟨a.block, a.off, by rw [← ea'], by simpa [Addr.add] using hb, fun j u hu => ?_⟩
      have hj : j < len := by
        rcases Nat.lt_or_ge j len with h1 | h1
        · exact h1
        · rw [List.getElem?_eq_none (by simp [u64s]; omega)] at hu; cases hu
      have hzj : j < zs.length := by omega
      have := hcell j hzj
      rw [ea', add_off] at this
      rw [this, ← hu]
      have e1 : zs.getD j 0 = zs[j] := by simp [List.getD, List.getElem?_eq_getElem hzj]
      have e2 := hpos zs[j] (List.getElem_mem hzj)
      rw [e1]
      simp only [u64s, List.getElem?_map, List.getElem?_take_of_lt hj, List.getElem?_eq_getElem hzj, Option.map_some]
      rw [Int.toNat_of_nonneg e2.1]

/-- a slice of bytes -/
theorem open_bytes {fuel : Nat} {v : Value} {x : DataW H × List MemPlace} (h : DataW.trod enc Try.prog w base spare held fuel 32 [v] = some x) :
    ∃ (l : List Nat) (A : Option Addr) (cap : Nat), v = .slice A l.length cap ∧ l.length ≤ cap ∧ l.length ≤ 9223372036854775807 ∧ (∀ x ∈ l, x < 256) ∧ SlR w A (u8s l) ∧ (A = none → cap = 0) := by
  rcases open_ints Try.underlying32 Try.underlying5 (by kernel_rfl) h with ⟨hcs, _⟩ | ⟨a, len, cap, zs, hcs, _, hl, hm, hz, _, hcell, hwf⟩
  · injection hcs with hv
    exact ⟨[], none, 0, hv, Nat.le_refl _, by simp, by simp, fun h => absurd rfl h, fun _ => rfl⟩
  · injection hcs with hv
    have hlen : len ≤ zs.length := by rw [hz]; split <;> omega
    have hL : ((zs.take len).map Int.toNat).length = len := by simp; omega
    unfold maxLen at hm
    have hpos : ∀ z ∈ zs, 0 ≤ z ∧ z < 256 := fun z hz => by
      have := hwf z hz
      simp [Lit.wf, IntKind.min, IntKind.max, IntKind.signed, IntKind.bits] at this
      omega
    refine ⟨(zs.take len).map Int.toNat, some a, cap, by rw [hL]; exact hv, by rw [hL]; exact hl, by rw [hL]; omega, ?_, ?_, fun h => by cases h⟩
    · intro x hx
      obtain ⟨z, hz, rfl⟩ := List.mem_map.1 hx
      have := hpos z (List.mem_of_mem_take hz)
      omega
    · intro hne
      have h0 : 0 < len := by
        rcases Nat.eq_zero_or_pos len with h0 | h0
        · exfalso; apply hne; simp [u8s, h0]
        · exact h0
      obtain ⟨ea, hb⟩ := addr_of_cell (hcell 0 (by omega))
      have ea' : a = ⟨a.block, a.off, none⟩ := by
        obtain ⟨b, o, s⟩ := a
        simpa [Addr.add] using ea
      refine ⟨a.block, a.off, by rw [← ea'], by simpa [Addr.add] using hb, fun j u hu => ?_⟩
      have hj : j < len := by
        rcases Nat.lt_or_ge j len with h1 | h1
        · exact h1
        · rw [List.getElem?_eq_none (by simp [u8s]; omega)] at hu; cases hu
      have hzj : j < zs.length := by omega
      have := hcell j hzj
      rw [ea', add_off] at this
      rw [this, ← hu]
      have e1 : zs.getD j 0 = zs[j] := by simp [List.getD, List.getElem?_eq_getElem hzj]
      have e2 := hpos zs[j] (List.getElem_mem hzj)
      rw [e1]
      simp only [u8s, List.getElem?_map, List.getElem?_take_of_lt hj, List.getElem?_eq_getElem hzj, Option.map_some]
      rw [Int.toNat_of_nonneg e2.1]

end
end Go.Proofs.Ytcbaedknajeofaa
