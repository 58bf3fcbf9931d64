/- The contract of the reference's Decode, of all words. Condition: the words are 64 bits wide. -/
import Derived.Test.YtmjkljgccaipoaaDoorG6
namespace Go.Proofs.YtmjkljgccaipoaaDoor
open Go.RowKit

theorem decC_long (l : List Nat) (h : 12 < l.length) : decC l = none := by
  cases hd : decC l with
  | none => rfl
  | some c =>
    exfalso
    obtain ⟨m, e⟩ := encC_decC l c hd
    have hl := encC_length c m
    have hb := ((mayC_iff c).1 m).2
    rw [e] at hl
    omega

theorem ref_short (l : List Nat) (A : Option Addr) (cap : Nat) (w : World) (h : l.length < 2) :
    Calls Tryd.prog 18 #[.slice A l.length cap] w (DecPost w l) := by
  have hd : decC l = none := by
    match l, h with
    | [], _ => rfl
    | [x], _ => rfl
    | x :: y :: r, h => simp at h; omega
  have Hd := Lib.hid hd
  clear hd
  go_enter Tryd.func18, Tryd.ntmps18
  go_wp2
  exact ret_cell_tmp Tryd.results18 rfl (heap_alloc_new w _) Tryd.underlying26 rfl (by as_aux_lemma => kernel_rfl) rfl (DecPost_none Hd.out ((Below.refl _ _).alloc (Nat.le_refl _) _))

theorem ref_many (l : List Nat) (n : Nat) (hn : l.length = n) (A : Option Addr) (cap : Nat) (w : World) (h : 12 < n) :
    Calls Tryd.prog 18 #[.slice A n cap] w (DecPost w l) := by
  have Hd := Lib.hid (decC_long l (by omega))
  have j1 : decide ((n : Int) < 2) = false := by simp; omega
  have j2 : decide ((12 : Int) < (n : Int)) = true := by simp; omega
  have j3 : (12 : Int) < (n : Int) := by omega
  have j4 : (2 : Int) ≤ (n : Int) := by omega
  clear h hn
  go_enter Tryd.func18, Tryd.ntmps18
  go_wp2
  exact ret_cell_tmp Tryd.results18 rfl (heap_alloc_new w _) Tryd.underlying26 rfl (by as_aux_lemma => kernel_rfl) rfl (DecPost_none Hd.out ((Below.refl _ _).alloc (Nat.le_refl _) _))

set_option maxRecDepth 100000 in
set_option maxHeartbeats 6400000 in
theorem ref_len (x0 x1 : Nat) (rest : List Nat) (n nW nI : Nat) (b off cap : Nat) (w : World) (hx0 : x0 < 18446744073709551616) (h2 : 2 ≤ n) (h12 : n ≤ 12)
    (fn : (x0 : Int) / 65536 % 16 = (nW : Int)) (fk : (x0 : Int) / 1048576 % 4 = (nI : Int)) (hne : Hid (decC (x0 :: x1 :: rest) = none)) (hnn : ¬ n = nW + nI + 2)
    (hbb : b < w.heap.size) (v0 : w.cell? ⟨b, off, none⟩ = some (.int .u64 (x0 : Int))) (v1 : w.cell? ⟨b, off + 1, none⟩ = some (.int .u64 (x1 : Int))) :
    Calls Tryd.prog 18 #[.slice (some ⟨b, off, none⟩) n cap] w (DecPost w (x0 :: x1 :: rest)) := by
  have j0 : (0 : Int) < (n : Int) := by omega
  have j1 : (1 : Int) < (n : Int) := by omega
  have j2 : (2 : Int) ≤ (n : Int) := by omega
  have j3 : decide ((n : Int) < 2) = false := by simp; omega
  have j4 : (n : Int) ≤ 12 := by omega
  have j5 : decide ((12 : Int) < (n : Int)) = false := by simp; omega
  have n0 : 0 < n := by omega
  have n1 : 1 < n := by omega
  have t0 : ((nW : Int) + (nI : Int) + 2 != (n : Int)) = true := by simp; omega
  have hnW : nW ≤ 15 := by omega
  have hnI : nI ≤ 3 := by omega
  clear hnn
  go_enter Tryd.func18, Tryd.ntmps18
  go_wp2_with fail
  refine ret_cell_tmp Tryd.results18 rfl ((Below.heap_alloc (w.alloc (.cells zeroV 26)) _ w.heap.size (by simp)).trans (heap_alloc_new w (.cells zeroV 26))) Tryd.underlying26 rfl info_call rfl ?_
  exact (DecPost_none hne.out (((Below.refl _ _).alloc (Nat.le_refl _) _).alloc (by simp) _))

theorem ref_any (l : List Nat) (A : Option Addr) (cap : Nat) (w : World) (hA : SlR w A (u64s l)) (hx : ∀ x ∈ l, x < 18446744073709551616) :
    Calls Tryd.prog 18 #[.slice A l.length cap] w (DecPost w l) := by
  match l, hA, hx with
  | [], _, _ => exact ref_short [] A cap w (by decide)
  | [x], _, _ => exact ref_short [x] A cap w (by simp)
  | x0 :: x1 :: rest, hA, hx =>
    by_cases h12 : 12 < (x0 :: x1 :: rest).length
    · exact ref_many _ _ rfl A cap w h12
    have hx0 : x0 < 18446744073709551616 := hx x0 (by simp)
    obtain ⟨b, off, rfl, hbb, hcell⟩ := hA.word (k := 0) (by simp)
    have c0 := hcell 0 (by simp)
    have c1 := hcell 1 (by simp)
    simp only [Nat.add_zero, List.getElem_cons_zero, List.getElem_cons_succ] at c0 c1
    obtain ⟨nW, hW⟩ : ∃ nW, nW = x0 / 65536 % 16 := ⟨_, rfl⟩
    obtain ⟨nI, hI⟩ : ∃ nI, nI = x0 / 1048576 % 4 := ⟨_, rfl⟩
    have en : (x0 :: x1 :: rest).length = rest.length + 2 := by simp
    have fn : (x0 : Int) / 65536 % 16 = (nW : Int) := by omega
    have fk : (x0 : Int) / 1048576 % 4 = (nI : Int) := by omega
    have e1 : (x0 : Int) / 4194304 / 4 = ((x0 / 16777216 : Nat) : Int) := by omega
    have e2 : (x0 : Int) / 4194304 / 4 / 256 = ((x0 / 4294967296 : Nat) : Int) := by rw [e1]; omega
    have e3 : (x0 : Int) / 4194304 / 4 / 65536 = ((x0 / 1099511627776 : Nat) : Int) := by rw [e1]; omega
    by_cases hne : rest.length = nW + nI
    · exact ref_main x0 rest (seemC x0 x1 rest) (x0 :: x1 :: rest).length nW nI b off cap w hx0 (show (x0 :: x1 :: rest).length = 2 + nW + nI by rw [en]; omega) (by simp) (by omega)
        (by simp [seemC]) (by simp [seemC]) fn fk (by rw [Bool.eq_iff_iff, beq_iff_eq]; simp only [seemC, decide_eq_true_eq]; omega) (by rw [e1]; simp [seemC]) (by rw [e2]; simp [seemC]) (by rw [e3]; simp [seemC])
        (show (seemC x0 x1 rest).words = rest.take nW by simp only [seemC, ← hW]) (show (seemC x0 x1 rest).items = (rest.drop nW).map itemOf by simp only [seemC, ← hW])
        (show ∀ x ∈ rest, x < 18446744073709551616 from fun x hm => hx x (by simp [hm])) (show rest.length = nW + nI from hne) (show decC (x0 :: x1 :: rest) = _ from decC_main x0 x1 rest nW nI hW hI hne) hbb c0 c1
        (show ∀ j (hj : j < rest.length), w.cell? ⟨b, off + (2 + j), none⟩ = some (.int .u64 ((rest[j] : Nat) : Int)) from fun j hj => by
          have := hcell (2 + j) (by simp; omega)
          rw [this]
          congr 3
          simp [Nat.add_comm 2 j])
    · exact ref_len x0 x1 rest (x0 :: x1 :: rest).length nW nI b off cap w hx0 (by simp) (by omega) fn fk (show decC (x0 :: x1 :: rest) = none from decC_len x0 x1 rest nW nI (by rw [hW]) (by rw [hI]) hne) (by rw [en]; omega) hbb c0 c1
end Go.Proofs.YtmjkljgccaipoaaDoor
