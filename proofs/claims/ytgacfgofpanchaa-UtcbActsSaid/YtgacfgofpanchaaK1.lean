/- An arena in memory; contracts of part, words, Size. No condition. -/
import Derived.Test.YtgacfgofpanchaaProg
import Derived.Test.YtgacfgofpanchaaK0
import Derived.Test.YtgacfgofpanchaaM1
import Derived.WalkKit
import Derived.WalkLawsBesides
import Derived.WalkSpells
import Derived.Deep.QuietTactic
import Derived.BigQuiet
import Derived.Deep.RegionHeld3
import Derived.Deep.RegionLaw
import Derived.Outline
namespace Go.Proofs.Ytgacfgofpanchaa
open Go.RowKit

/-- an arena of N bytes lies at its block, its bytes at theirs -/
def ArAt (W : World) (ga gb N : Nat) (f : Nat → Nat) : Prop :=
  W.heap[ga]? = some (.cells #[.slice (some ⟨gb, 0, none⟩) N N] 85 (0, 0)) ∧ (∃ cs : Array Value, W.heap[gb]? = some (.cells cs 5 (0, 0)) ∧ cs.size = N) ∧ (∀ i, i < N → W.cell? ⟨gb, i, none⟩ = some (.int .u8 ((f i : Nat) : Int))) ∧ (∀ i, f i < 256) ∧ ga ≠ gb ∧ N ≤ 1073741824
theorem ArAt.lt {W : World} {ga gb N : Nat} {f : Nat → Nat} (h : ArAt W ga gb N f) : ga < W.heap.size ∧ gb < W.heap.size := by
  constructor
  · rcases Nat.lt_or_ge ga W.heap.size with hlt | hge
    · exact hlt
    · have := h.1; rw [Array.getElem?_eq_none hge] at this; cases this
  · obtain ⟨cs, hc, _⟩ := h.2.1
    rcases Nat.lt_or_ge gb W.heap.size with hlt | hge
    · exact hlt
    · rw [Array.getElem?_eq_none hge] at hc; cases hc
theorem ArAt.below {W W' : World} {ga gb N : Nat} {f : Nat → Nat} (h : ArAt W ga gb N f) (hb : Below W.heap.size W W') : ArAt W' ga gb N f := by
  obtain ⟨cs, hc, hs⟩ := h.2.1
  exact ⟨(hb.block ga h.lt.1).trans h.1, ⟨cs, (hb.block gb h.lt.2).trans hc, hs⟩, fun i hi => (hb.cell (p := ⟨gb, i, none⟩) h.lt.2).trans (h.2.2.1 i hi), h.2.2.2⟩
theorem ArAt.frozen {W : World} {ga gb N : Nat} {f : Nat → Nat} (h : ArAt W ga gb N f) (i : Nat) : W.frozen? ⟨gb, i, none⟩ = false := by
  obtain ⟨cs, hc, _⟩ := h.2.1
  exact frozen_of_row W gb i _ _ hc
theorem ArAt.box {W : World} {ga gb N : Nat} {f : Nat → Nat} (h : ArAt W ga gb N f) : W.cell? ⟨ga, 0, none⟩ = some (.slice (some ⟨gb, 0, none⟩) N N) := cell_of_row W ga 0 _ _ _ h.1
theorem ArAt.congr {W : World} {ga gb N : Nat} {f g : Nat → Nat} (h : ArAt W ga gb N f) (hg : ∀ i, g i < 256) (he : ∀ i, i < N → f i = g i) : ArAt W ga gb N g :=
  ⟨h.1, h.2.1, fun i hi => by rw [h.2.2.1 i hi, he i hi], hg, h.2.2.2.2⟩
/-- a byte of the arena is set -/
theorem ArAt.set {W : World} {ga gb N : Nat} {f : Nat → Nat} (h : ArAt W ga gb N f) (i v : Nat) (hi : i < N) (hv : v < 256) :
    ArAt (W.setCell ⟨gb, i, none⟩ (.int .u8 ((v : Nat) : Int))) ga gb N (fun j => if j = i then v else f j) := by
  obtain ⟨cs, hc, hs⟩ := h.2.1
  refine ⟨(Below.heap_setCell W _ _ _ (by simpa using h.2.2.2.2.1)).trans h.1, ⟨_, heap_setCell_same W gb i cs _ _ hc, by simpa using hs⟩, fun j hj => ?_, fun j => ?_, h.2.2.2.2⟩
  · by_cases e : j = i
    · subst e
      show _ = some (Value.int .u8 (((if j = j then v else f j : Nat)) : Int))
      rw [if_pos rfl]
      exact World.cell?_setCell_same' W ⟨gb, j, none⟩ _ (by rw [h.2.2.1 j hj]; rfl)
    · show _ = some (Value.int .u8 (((if j = i then v else f j : Nat)) : Int))
      rw [if_neg e, World.cell?_setCell_other _ _ _ _ (by intro e2; injection e2 with _ e3; exact e e3.symm)]
      exact h.2.2.1 j hj
  · show (if j = i then v else f j) < 256
    split
    · exact hv
    · exact h.2.2.2.1 j

/-- where a part of the bytes begins -/
def partA (gb N at_ : Nat) : Addr := if N = at_ then ⟨gb, 0, none⟩ else ⟨gb, at_, none⟩
theorem run_part (gb N at_ n : Nat) (h : at_ + n ≤ N) (w : World) : (Instr.slice 70 (.slice (some ⟨gb, 0, none⟩) N N) (some (.int .i64 (at_ : Int))) (some (.int .i64 ((at_ : Int) + (n : Int)))) none).run Try.prog w = .ok (.slice (some (partA gb N at_)) n (N - at_)) w := by
  have hE : (Try.prog.info? 5).map (·.size) = some 1 := by kernel_rfl
  cases hq : Try.prog.info? 5 with
  | none => simp [hq] at hE
  | some i =>
    have hs : i.size = 1 := by simpa [hq] using hE
    have e1 : Try.prog.elem 70 = 5 := by simp [Program.elem, Try.underlying70]
    have := run_slice_lh (P := Try.prog) (w := w) (t := 70) (a := some ⟨gb, 0, none⟩) (len := N) (cap := N) (ht := by rw [e1]; exact Try.underlying70) .i64 .i64 (at_ : Int) ((at_ : Int) + (n : Int)) (by omega) (by omega) (by omega)
    rw [this]
    have e2 : ((at_ : Int) + (n : Int)).toNat - at_ = n := by omega
    by_cases hN : N = at_
    · subst hN
      simp [sizeOf, typeInfo, e1, hq, hs, sliced, partA, Result.andThen, e2]
    · have hadd : (⟨gb, 0, none⟩ : Addr).add at_ = ⟨gb, at_, none⟩ := by unfold Addr.add; split <;> simp_all
      simp [sizeOf, typeInfo, e1, hq, hs, sliced, partA, Result.andThen, e2, hN, hadd]

theorem part_yes (W : World) (ga gb N : Nat) (f : Nat → Nat) (at_ n : Nat) (ha : at_ + n ≤ N) (h : ArAt W ga gb N f) :
    Calls Try.prog 41 #[.pointer (some ⟨ga, 0, none⟩), .int .i64 (at_ : Int), .int .i64 (n : Int)] W fun e w' => e = .returned (.tuple #[.slice (some (partA gb N at_)) n (N - at_), .int .i64 0]) ∧ w' = W := by
  have c0 := h.box
  have hN := h.2.2.2.2.2
  have hs := run_part gb N at_ n ha
  have i1 : (0 : Int) ≤ (at_ : Int) := by omega
  have i2 : (0 : Int) ≤ (n : Int) := by omega
  have i3 : (at_ : Int) ≤ (N : Int) := by omega
  have i4 : (n : Int) ≤ (N : Int) - (at_ : Int) := by omega
  have i5 : (N : Int) ≤ 1073741824 := by omega
  have s1 : IntKind.i64.wrap ((at_ : Int) + (n : Int)) = (at_ : Int) + (n : Int) := by rw [IntKind.wrap_i64]; omega
  clear h
  go_enter Try.func41, Try.ntmps41
  go_wp2
  go_ret2
  exact ⟨rfl, rfl⟩
end Go.Proofs.Ytgacfgofpanchaa
