/- The contract of Decode, of all words. Condition: the words are 64 bits wide. -/
import Derived.Test.YtmjkljgccaipoaaDoorB1
namespace Go.Proofs.YtmjkljgccaipoaaDoor
open Go.RowKit

theorem decC_main (x0 x1 : Nat) (rest : List Nat) (nW nI : Nat) (hW : nW = x0 / 65536 % 16) (hI : nI = x0 / 1048576 % 4) (h : rest.length = nW + nI) :
    decC (x0 :: x1 :: rest) = if (rest.drop nW).all itemOk && mayC (seemC x0 x1 rest) && decide (headC (seemC x0 x1 rest) = x0) then some (seemC x0 x1 rest) else none := by
  subst hW hI
  simp only [decC, decOk, h, decide_true, Bool.true_and]

theorem decode_any (l : List Nat) (A : Option Addr) (cap : Nat) (w : World) (hA : SlR w A (u64s l)) (hx : ∀ x ∈ l, x < 18446744073709551616) (hl : l.length ≤ 140737488351232) (hcap : l.length ≤ cap) :
    Calls Tryd.prog 17 #[.slice A l.length cap] w (DecPost w l) := by
  match l, hA, hx, hl, hcap with
  | [], _, _, _, _ => exact decode_short [] A cap w (by decide)
  | [x], _, _, _, _ => exact decode_short [x] A cap w (by simp)
  | x0 :: x1 :: rest, hA, hx, hl, hcap =>
    have hx0 : x0 < 18446744073709551616 := hx x0 (by simp)
    obtain ⟨b, off, rfl, hbb, hcell⟩ := hA.word (k := 0) (by simp)
    have c0 := hcell 0 (by simp)
    have c1 := hcell 1 (by simp)
    simp only [Nat.add_zero, List.getElem_cons_zero, List.getElem_cons_succ] at c0 c1
    obtain ⟨nW, hW⟩ : ∃ nW, nW = x0 / 65536 % 16 := ⟨_, rfl⟩
    obtain ⟨nI, hI⟩ : ∃ nI, nI = x0 / 1048576 % 4 := ⟨_, rfl⟩
    have en : (x0 :: x1 :: rest).length = rest.length + 2 := by simp
    by_cases hne : rest.length = nW + nI
    · have hs8 := SlR.take (SlR.cut (k := 2) hA (by rw [u64s_length]; exact hcap)) nW
      have hs9 := SlR.cut (k := 2 + nW) hA (by rw [u64s_length]; exact hcap)
      have e8 : ((u64s (x0 :: x1 :: rest)).drop 2).take nW = u64s (rest.take nW) := by simp [u64s]
      have e9 : (u64s (x0 :: x1 :: rest)).drop (2 + nW) = u64s (rest.drop nW) := by
        rw [Nat.add_comm]
        simp [u64s]
      rw [e8] at hs8
      rw [e9] at hs9
      exact decode_main x0 x1 rest (rest.drop nW) (seemC x0 x1 rest) ((x0 / 2 ^ 22 % 2 ^ 1 : Nat) : Int) (x0 :: x1 :: rest).length nW nI b off cap (cap - (2 + nW)) (cutA (some ⟨b, off, none⟩) cap (2 + nW)) w hx0
        (show (x0 :: x1 :: rest).length = 2 + nW + nI by rw [en]; omega) (by simp) hl (show (nW : Int) = _ by rw [hW]) (show (nI : Int) = _ by rw [hI]) (by omega) (by omega) (show (rest.drop nW).length = nI by rw [List.length_drop]; omega)
        (show ∀ x ∈ rest.drop nW, x < 18446744073709551616 from fun x hm => hx x (by have := List.mem_of_mem_drop hm; simp [this]))
        (show _ = _ by rfl) (show _ = _ by simp [seemC]) (show _ = _ by rfl) (show _ = _ by rfl) (show _ = _ by rfl) (show _ = _ by rfl)
        (by rw [Bool.eq_iff_iff, beq_iff_eq]; simp only [seemC, decide_eq_true_eq]; omega) (show (seemC x0 x1 rest).x = x1 by rfl)
        (show (seemC x0 x1 rest).words.length = nW by simp only [seemC, ← hW, List.length_take]; omega) (show (seemC x0 x1 rest).items = _ by simp only [seemC, ← hW])
        (show decC (x0 :: x1 :: rest) = _ from decC_main x0 x1 rest nW nI hW hI hne) hbb c0 c1
        (cutA (some ⟨b, off, none⟩) cap 2) (cap - 2) (show SlR w _ (u64s (seemC x0 x1 rest).words) by simp only [seemC, ← hW]; exact hs8) hs9
        (fun w => by
          have := run_slice_lo_hi Tryd.prog 23 22 Tryd.underlying23 (by kernel_rfl) (some ⟨b, off, none⟩) (x0 :: x1 :: rest).length cap 2 (2 + nW) 2 (2 + (nW : Int)) rfl (by omega) (by omega) (by omega) w
          rw [this, show 2 + nW - 2 = nW by omega])
        (fun w => by
          have := run_slice_lo Tryd.prog 23 22 Tryd.underlying23 (by kernel_rfl) (some ⟨b, off, none⟩) (x0 :: x1 :: rest).length cap (2 + nW) (2 + (nW : Int)) (by omega) (by omega) w
          rw [this, show (x0 :: x1 :: rest).length - (2 + nW) = nI by omega])
    · exact decode_len x0 x1 rest (x0 :: x1 :: rest).length nW nI b off cap w hx0 (show _ = _ from en) (by simp) hl (show (nW : Int) = _ by rw [hW]) (show (nI : Int) = _ by rw [hI]) (by omega) (by omega) (show rest.length ≠ nW + nI from hne) hbb c0 c1

theorem decode_good (l : List Nat) (c : Cal) (_ : decC l = some c) (A : Option Addr) (cap : Nat) (w : World) (hA : SlR w A (u64s l)) (hx : ∀ x ∈ l, x < 18446744073709551616) (hl : l.length ≤ 140737488351232) (hcap : l.length ≤ cap) :
    Calls Tryd.prog 17 #[.slice A l.length cap] w (DecPost w l) := decode_any l A cap w hA hx hl hcap
end Go.Proofs.YtmjkljgccaipoaaDoor
