/- An arena in memory; contracts of part, words, Size. No condition. And what follows from it. -/
import Derived.Test.YtflkoabgkgegjaaGreatDoorProg
import Derived.Test.YtflkoabgkgegjaaGreatDoorY20
import Derived.Test.YtflkoabgkgegjaaGreatDoorY1
import Derived.WalkKit
import Derived.WalkLawsBesides
import Derived.WalkSpells
import Derived.Deep.QuietTactic
import Derived.BigQuiet
import Derived.Deep.RegionHeld3
import Derived.Deep.RegionLaw
import Derived.Outline
/- An arena in memory; contracts of part, words, Size. No condition. -/
namespace Go.Proofs.YtflkoabgkgegjaaGreatDoor.Ar
open Go.RowKit

/-- an arena of N bytes lies at its block, its bytes at theirs -/
def ArAt (W : World) (ga gb N : Nat) (f : Nat → Nat) : Prop :=
  W.heap[ga]? = some (.cells #[.slice (some ⟨gb, 0, none⟩) N N] 130 (0, 0)) ∧ (∃ cs : Array Value, W.heap[gb]? = some (.cells cs 5 (0, 0)) ∧ cs.size = N) ∧ (∀ i, i < N → W.cell? ⟨gb, i, none⟩ = some (.int .u8 ((f i : Nat) : Int))) ∧ (∀ i, f i < 256) ∧ ga ≠ gb ∧ N ≤ 1073741824
theorem ArAt.lt {W : World} {ga gb N : Nat} {f : Nat → Nat} (h : ArAt W ga gb N f) : ga < W.heap.size ∧ gb < W.heap.size := by
  constructor
  · rcases Nat.lt_or_ge ga W.heap.size with hlt | hge
    · exact hlt
    · have := h.1; rw [Array.getElem?_eq_none hge] at this; cases this
  · obtain ⟨cs, hc, _⟩ := h.2.1
    rcases Nat.lt_or_ge gb W.heap.size with hlt | hge
    · exact hlt
    · rw [Array.getElem?_eq_none hge] at hc; cases hc
theorem ArAt.below {W W' : World} {ga gb N : Nat} {f : Nat → Nat} (h : ArAt W ga gb N f) (hb : Below W.heap.size W W') : ArAt W' ga gb N f := by
  obtain ⟨cs, hc, hs⟩ := h.2.1
  exact ⟨(hb.block ga h.lt.1).trans h.1, ⟨cs, (hb.block gb h.lt.2).trans hc, hs⟩, fun i hi => (hb.cell (p := ⟨gb, i, none⟩) h.lt.2).trans (h.2.2.1 i hi), h.2.2.2⟩
theorem ArAt.frozen {W : World} {ga gb N : Nat} {f : Nat → Nat} (h : ArAt W ga gb N f) (i : Nat) : W.frozen? ⟨gb, i, none⟩ = false := by
  obtain ⟨cs, hc, _⟩ := h.2.1
  exact frozen_of_row W gb i _ _ hc
theorem ArAt.box {W : World} {ga gb N : Nat} {f : Nat → Nat} (h : ArAt W ga gb N f) : W.cell? ⟨ga, 0, none⟩ = some (.slice (some ⟨gb, 0, none⟩) N N) := cell_of_row W ga 0 _ _ _ h.1
theorem ArAt.congr {W : World} {ga gb N : Nat} {f g : Nat → Nat} (h : ArAt W ga gb N f) (hg : ∀ i, g i < 256) (he : ∀ i, i < N → f i = g i) : ArAt W ga gb N g :=
  ⟨h.1, h.2.1, fun i hi => by rw [h.2.2.1 i hi, he i hi], hg, h.2.2.2.2⟩
/-- a byte of the arena is set -/
theorem ArAt.set {W : World} {ga gb N : Nat} {f : Nat → Nat} (h : ArAt W ga gb N f) (i v : Nat) (hi : i < N) (hv : v < 256) :
    ArAt (W.setCell ⟨gb, i, none⟩ (.int .u8 ((v : Nat) : Int))) ga gb N (fun j => if j = i then v else f j) := by
  obtain ⟨cs, hc, hs⟩ := h.2.1
  refine ⟨(Below.heap_setCell W _ _ _ (by simpa using h.2.2.2.2.1)).trans h.1, ⟨_, heap_setCell_same W gb i cs _ _ hc, by simpa using hs⟩, fun j hj => ?_, fun j => ?_, h.2.2.2.2⟩
  · by_cases e : j = i
    · subst e
      show _ = some (Value.int .u8 (((if j = j then v else f j : Nat)) : Int))
      rw [if_pos rfl]
      exact World.cell?_setCell_same' W ⟨gb, j, none⟩ _ (by rw [h.2.2.1 j hj]; rfl)
    · show _ = some (Value.int .u8 (((if j = i then v else f j : Nat)) : Int))
      rw [if_neg e, World.cell?_setCell_other _ _ _ _ (by intro e2; injection e2 with _ e3; exact e e3.symm)]
      exact h.2.2.1 j hj
  · show (if j = i then v else f j) < 256
    split
    · exact hv
    · exact h.2.2.2.1 j

def partA (gb N at_ : Nat) : Addr := if N = at_ then ⟨gb, 0, none⟩ else ⟨gb, at_, none⟩
theorem run_part (gb N at_ n : Nat) (h : at_ + n ≤ N) (w : World) : (Instr.slice 113 (.slice (some ⟨gb, 0, none⟩) N N) (some (.int .i64 (at_ : Int))) (some (.int .i64 ((at_ : Int) + (n : Int)))) none).run Tryz.prog w = .ok (.slice (some (partA gb N at_)) n (N - at_)) w := by
  have hE : (Tryz.prog.info? 5).map (·.size) = some 1 := by kernel_rfl
  cases hq : Tryz.prog.info? 5 with
  | none => simp [hq] at hE
  | some i =>
    have hs : i.size = 1 := by simpa [hq] using hE
    have e1 : Tryz.prog.elem 113 = 5 := by simp [Program.elem, Tryz.underlying113]
    have := run_slice_lh (P := Tryz.prog) (w := w) (t := 113) (a := some ⟨gb, 0, none⟩) (len := N) (cap := N) (ht := by rw [e1]; exact Tryz.underlying113) .i64 .i64 (at_ : Int) ((at_ : Int) + (n : Int)) (by omega) (by omega) (by omega)
    rw [this]
    have e2 : ((at_ : Int) + (n : Int)).toNat - at_ = n := by omega
    by_cases hN : N = at_
    · subst hN
      simp [sizeOf, typeInfo, e1, hq, hs, sliced, partA, Result.andThen, e2]
    · have hadd : (⟨gb, 0, none⟩ : Addr).add at_ = ⟨gb, at_, none⟩ := by unfold Addr.add; split <;> simp_all
      simp [sizeOf, typeInfo, e1, hq, hs, sliced, partA, Result.andThen, e2, hN, hadd]

theorem part_yes (W : World) (ga gb N : Nat) (f : Nat → Nat) (at_ n : Nat) (ha : at_ + n ≤ N) (h : ArAt W ga gb N f) :
    Calls Tryz.prog 75 #[.pointer (some ⟨ga, 0, none⟩), .int .i64 (at_ : Int), .int .i64 (n : Int)] W fun e w' => e = .returned (.tuple #[.slice (some (partA gb N at_)) n (N - at_), .int .i64 0]) ∧ w' = W := by
  have c0 := h.box
  have hN := h.2.2.2.2.2
  have hs := run_part gb N at_ n ha
  have i1 : (0 : Int) ≤ (at_ : Int) := by omega
  have i2 : (0 : Int) ≤ (n : Int) := by omega
  have i3 : (at_ : Int) ≤ (N : Int) := by omega
  have i4 : (n : Int) ≤ (N : Int) - (at_ : Int) := by omega
  have i5 : (N : Int) ≤ 1073741824 := by omega
  have s1 : IntKind.i64.wrap ((at_ : Int) + (n : Int)) = (at_ : Int) + (n : Int) := by rw [IntKind.wrap_i64]; omega
  clear h
  go_enter Tryz.func75, Tryz.ntmps75
  go_wp2
  go_ret2
  exact ⟨rfl, rfl⟩
end Go.Proofs.YtflkoabgkgegjaaGreatDoor.Ar
/- Contracts of part and words where they refuse, and of words. No condition. -/
namespace Go.Proofs.YtflkoabgkgegjaaGreatDoor.Ar
open Go.RowKit


/-- a range lies outside an arena of N bytes -/
def outR (N : Nat) (at_ n : Int) : Prop := at_ < 0 ∨ n < 0 ∨ (N : Int) < at_ ∨ (N : Int) - at_ < n

set_option maxRecDepth 100000 in
theorem part_no (W : World) (ga gb N : Nat) (f : Nat → Nat) (at_ n : Int) (h : ArAt W ga gb N f) (ho : outR N at_ n) (a1 : -9223372036854775808 ≤ at_) (a2 : at_ ≤ 9223372036854775807) (n1 : -9223372036854775808 ≤ n) (n2 : n ≤ 9223372036854775807) :
    Calls Tryz.prog 75 #[.pointer (some ⟨ga, 0, none⟩), .int .i64 at_, .int .i64 n] W fun e w' => e = .returned (.tuple #[.slice none 0 0, .int .i64 2]) ∧ w' = W := by
  have c0 := h.box
  have hN := h.2.2.2.2.2
  have i5 : (N : Int) ≤ 1073741824 := by omega
  clear h hN
  go_enter Tryz.func75, Tryz.ntmps75
  by_cases h1 : at_ < 0
  · clear ho
    go_wp2
    go_ret2
    exact ⟨rfl, rfl⟩
  by_cases h2 : n < 0
  · clear ho
    go_wp2
    go_ret2
    exact ⟨rfl, rfl⟩
  by_cases h3 : (N : Int) < at_
  · clear ho
    go_wp2
    go_ret2
    exact ⟨rfl, rfl⟩
  have h4 : (N : Int) - at_ < n := by unfold outR at ho; omega
  have s1 : IntKind.i64.wrap ((N : Int) - at_) = (N : Int) - at_ := by rw [IntKind.wrap_i64]; omega
  clear ho
  go_wp2
  go_ret2
  exact ⟨rfl, rfl⟩

set_option maxRecDepth 100000 in
theorem words_yes (W : World) (ga gb N : Nat) (f : Nat → Nat) (at_ n : Nat) (ha : at_ + n * 8 ≤ N) (h8 : at_ % 8 = 0) (h : ArAt W ga gb N f) :
    Calls Tryz.prog 59 #[.pointer (some ⟨ga, 0, none⟩), .int .i64 (at_ : Int), .int .i64 (n : Int)] W fun e w' => e = .returned (.tuple #[.slice (some (partA gb N at_)) (n * 8) (N - at_), .int .i64 0]) ∧ w' = W := by
  have hN := h.2.2.2.2.2
  have H := Lib.hid h
  have i1 : (0 : Int) ≤ (at_ : Int) := by omega
  have i5 : (at_ : Int) ≤ 1073741824 := by omega
  have s1 : IntKind.i64.wrap ((n : Int) * 8) = ((n * 8 : Nat) : Int) := by rw [IntKind.wrap_i64]; omega
  have s2 : Int.tmod (at_ : Int) 8 = 0 := by rw [Int.tmod_eq_emod_of_nonneg (by omega)]; omega
  clear h
  go_enter Tryz.func59, Tryz.ntmps59
  go_wp2_with (go_at_call 75; refine (part_yes _ ga gb N f at_ (n * 8) ha H.out).mono ?_; rintro e w' ⟨rfl, rfl⟩)
  go_ret2
  exact ⟨rfl, rfl⟩

set_option maxRecDepth 100000 in
theorem words_align (W : World) (ga gb N : Nat) (f : Nat → Nat) (at_ n : Nat) (ha : at_ + n * 8 ≤ N) (h8 : at_ % 8 ≠ 0) (h : ArAt W ga gb N f) :
    Calls Tryz.prog 59 #[.pointer (some ⟨ga, 0, none⟩), .int .i64 (at_ : Int), .int .i64 (n : Int)] W fun e w' => e = .returned (.tuple #[.slice none 0 0, .int .i64 3]) ∧ w' = W := by
  have hN := h.2.2.2.2.2
  have H := Lib.hid h
  have i1 : (0 : Int) ≤ (at_ : Int) := by omega
  have i5 : (at_ : Int) ≤ 1073741824 := by omega
  have s1 : IntKind.i64.wrap ((n : Int) * 8) = ((n * 8 : Nat) : Int) := by rw [IntKind.wrap_i64]; omega
  have s2 : Int.tmod (at_ : Int) 8 = ((at_ % 8 : Nat) : Int) := by rw [Int.tmod_eq_emod_of_nonneg (by omega)]; omega
  have s3 : (((at_ % 8 : Nat) : Int) == 0) = false := by simp; omega
  have i6 : ((at_ % 8 : Nat) : Int) ≤ 7 := by omega
  have i7 : 0 < ((at_ % 8 : Nat) : Int) := by omega
  clear h
  go_enter Tryz.func59, Tryz.ntmps59
  go_wp2_with (go_at_call 75; refine (part_yes _ ga gb N f at_ (n * 8) ha H.out).mono ?_; rintro e w' ⟨rfl, rfl⟩)
  go_ret2
  exact ⟨rfl, rfl⟩

set_option maxRecDepth 100000 in
theorem words_no (W : World) (ga gb N : Nat) (f : Nat → Nat) (at_ : Int) (n : Nat) (hn : n ≤ 1000) (h : ArAt W ga gb N f) (ho : outR N at_ (n * 8 : Nat)) (a1 : -9223372036854775808 ≤ at_) (a2 : at_ ≤ 9223372036854775807) :
    Calls Tryz.prog 59 #[.pointer (some ⟨ga, 0, none⟩), .int .i64 at_, .int .i64 (n : Int)] W fun e w' => e = .returned (.tuple #[.slice none 0 0, .int .i64 2]) ∧ w' = W := by
  have H := Lib.hid h
  have O := Lib.hid ho
  have s1 : IntKind.i64.wrap ((n : Int) * 8) = ((n * 8 : Nat) : Int) := by rw [IntKind.wrap_i64]; omega
  clear h ho
  go_enter Tryz.func59, Tryz.ntmps59
  go_wp2_with (go_at_call 75; refine (part_no _ ga gb N f at_ (n * 8 : Nat) H.out O.out a1 a2 (by omega) (by omega)).mono ?_; rintro e w' ⟨rfl, rfl⟩)
  go_ret2
  exact ⟨rfl, rfl⟩
end Go.Proofs.YtflkoabgkgegjaaGreatDoor.Ar
/- The contract of Fill. No condition. -/
namespace Go.Proofs.YtflkoabgkgegjaaGreatDoor.Ar
open Go.RowKit



theorem partA_in {gb N at_ : Nat} (h : at_ < N) : partA gb N at_ = ⟨gb, at_, none⟩ := by unfold partA; rw [if_neg (by omega)]
def fillF (f : Nat → Nat) (at_ n c : Nat) (j : Nat) : Nat := if at_ ≤ j ∧ j < at_ + n then c else f j
theorem fillF_zero (f : Nat → Nat) (at_ c : Nat) : fillF f at_ 0 c = f := by
  funext j
  unfold fillF
  rw [if_neg (by omega)]
theorem fillF_succ (f : Nat → Nat) (at_ k c : Nat) : (fun j => if j = at_ + k then c else fillF f at_ k c j) = fillF f at_ (k + 1) c := by
  funext j
  unfold fillF
  by_cases h : j = at_ + k
  · rw [if_pos h, if_pos (by omega)]
  · by_cases h2 : at_ ≤ j ∧ j < at_ + k
    · rw [if_neg h, if_pos h2, if_pos (by omega)]
    · rw [if_neg h, if_neg h2, if_neg (by omega)]

theorem fill_no (W : World) (ga gb N : Nat) (f : Nat → Nat) (at_ n : Int) (c : Nat) (h : ArAt W ga gb N f) (ho : outR N at_ n) (a1 : -9223372036854775808 ≤ at_) (a2 : at_ ≤ 9223372036854775807) (n1 : -9223372036854775808 ≤ n) (n2 : n ≤ 9223372036854775807) :
    Calls Tryz.prog 51 #[.pointer (some ⟨ga, 0, none⟩), .int .i64 at_, .int .i64 n, .int .u8 (c : Int)] W fun e w' => e = .returned (.int .i64 2) ∧ w' = W := by
  have H := Lib.hid h
  have O := Lib.hid ho
  clear h ho
  go_enter Tryz.func51, Tryz.ntmps51
  go_wp2_with (go_at_call 75; refine (part_no _ ga gb N f at_ n H.out O.out a1 a2 n1 n2).mono ?_; rintro e w' ⟨rfl, rfl⟩)
  go_loopw [21] (fun i wr => i = .int .i64 0 ∧ wr = w') (fun i _ => 0)
  case atStart => exact ⟨rfl, rfl⟩
  case round =>
    obtain ⟨rfl, rfl⟩ := hrel
    go_wp2
    go_ret
    exact ⟨rfl, rfl⟩

set_option maxRecDepth 100000 in
set_option maxHeartbeats 1600000 in
theorem fill_yes (W : World) (ga gb N : Nat) (f : Nat → Nat) (at_ n c : Nat) (ha : at_ + n ≤ N) (hc : c < 256) (h : ArAt W ga gb N f) :
    Calls Tryz.prog 51 #[.pointer (some ⟨ga, 0, none⟩), .int .i64 (at_ : Int), .int .i64 (n : Int), .int .u8 (c : Int)] W fun e w' => e = .returned (.int .i64 0) ∧ ArAt w' ga gb N (fillF f at_ n c) ∧ W.grownBy w' (some gb) := by
  have H := Lib.hid h
  have hN := h.2.2.2.2.2
  have i5 : (n : Int) ≤ 1073741824 := by omega
  clear h
  go_enter Tryz.func51, Tryz.ntmps51
  go_wp2_with (go_at_call 75; refine (part_yes _ ga gb N f at_ n ha H.out).mono ?_; rintro e w' ⟨rfl, rfl⟩)
  go_loopw [21] (fun i wr => ∃ (k : Nat), k ≤ n ∧ i = .int .i64 k ∧ ArAt wr ga gb N (fillF f at_ k c) ∧ w'.grownBy wr (some gb)) (fun i _ => n - (intOf i).toNat)
  case atStart => exact ⟨0, Nat.zero_le _, rfl, by rw [fillF_zero]; exact H.out, World.grownBy.refl _ _⟩
  case round =>
    obtain ⟨k, hk, rfl, hm, hgr⟩ := hrel
    have Hgr := Lib.hid hgr
    by_cases hlt : k < n
    · rw [partA_in (show at_ < N by omega)]
      have HM := Lib.hid hm
      have v := hm.2.2.1 (at_ + k) (by omega)
      have hf := hm.frozen (at_ + k)
      clear hgr hm
      go_wp2
      exact ⟨⟨k + 1, by omega, by go_num, by rw [← fillF_succ]; exact HM.out.set _ _ (by omega) hc, gb_set Hgr.out _ _⟩, by simp [intOf]; omega⟩
    · have hkn : k = n := by omega
      have hm' : ArAt wr ga gb N (fillF f at_ n c) := by rw [hkn] at hm; exact hm
      have Hm := Lib.hid hm'
      clear hm hm' hgr
      go_wp2
      go_ret
      exact ⟨rfl, Hm.out, Hgr.out⟩
end Go.Proofs.YtflkoabgkgegjaaGreatDoor.Ar
/- The contracts of Load and Store. Condition of Store: the words are read, and lie elsewhere than the bytes. -/
namespace Go.Proofs.YtflkoabgkgegjaaGreatDoor.Ar
open Go.RowKit




set_option maxRecDepth 100000 in
theorem load_yes (W : World) (ga gb N : Nat) (f : Nat → Nat) (at_ : Nat) (ha : at_ + 8 ≤ N) (h8 : at_ % 8 = 0) (h : ArAt W ga gb N f) :
    Calls Tryz.prog 27 #[.pointer (some ⟨ga, 0, none⟩), .int .i64 (at_ : Int)] W fun e w' => e = .returned (.tuple #[.int .u64 ((sumB f at_ 8 : Nat) : Int), .int .i64 0]) ∧ w' = W := by
  have H := Lib.hid h
  have hN := h.2.2.2.2.2
  clear h
  go_enter Tryz.func27, Tryz.ntmps27
  go_wp2_with (go_at_call 59; refine (words_yes _ ga gb N f at_ 1 (by omega) h8 H.out).mono ?_; rintro e w' ⟨rfl, rfl⟩)
  rw [partA_in (show at_ < N by omega)]
  go_loopw [8, 19] (fun x i wr => ∃ (k : Nat), k ≤ 8 ∧ i = .int .i64 k ∧ x = .int .u64 ((sumB f at_ k : Nat) : Int) ∧ wr = w') (fun _ i _ => 8 - (intOf i).toNat)
  case atStart => exact ⟨0, Nat.zero_le _, rfl, rfl, rfl⟩
  case round =>
    obtain ⟨k, hk, rfl, rfl, rfl⟩ := hrel
    by_cases hlt : k < 8
    · have v := H.out.2.2.1 (at_ + k) (by omega)
      have hb := H.out.2.2.2.1 (at_ + k)
      obtain ⟨c, hc⟩ : ∃ c, f (at_ + k) = c := ⟨_, rfl⟩
      obtain ⟨x, hx⟩ : ∃ x, sumB f at_ k = x := ⟨_, rfl⟩
      have hxl := sumB_lt f at_ H.out.2.2.2.1 k
      have hs : Hid (sumB f at_ (k + 1) = x + c * 256 ^ k) := Lib.hid (by simp only [sumB, hx, hc])
      rw [hx] at hxl ⊢
      rw [hc] at v hb
      have ob := or_byte x c k hlt hxl hb
      have ox : x < 18446744073709551616 := by
        have : x ≤ x + c * 256 ^ k := Nat.le_add_right _ _
        omega
      clear hx hc hxl
      have s5 : ((8 : Int) * (k : Int)).toNat = 8 * k := by omega
      have s6 : IntKind.i64.wrap (8 * (k : Int)) = 8 * (k : Int) := by rw [IntKind.wrap_i64]; omega
      go_wp2
      refine ⟨⟨k + 1, by omega, by go_num, ?_, by first | rfl | trivial⟩, by simp [intOf]; omega⟩
      rw [hs.out]
      push_cast
      rfl
    · have hkn : k = 8 := by omega
      subst hkn
      go_wp2
      go_ret2
      exact ⟨rfl, rfl⟩
theorem load_bad (W : World) (ga : Nat) (at_ : Int) (er : Int) (hw : Calls Tryz.prog 59 #[.pointer (some ⟨ga, 0, none⟩), .int .i64 at_, .int .i64 1] W fun e w' => e = .returned (.tuple #[.slice none 0 0, .int .i64 er]) ∧ w' = W) :
    Calls Tryz.prog 27 #[.pointer (some ⟨ga, 0, none⟩), .int .i64 at_] W fun e w' => e = .returned (.tuple #[.int .u64 0, .int .i64 er]) ∧ w' = W := by
  have H := Lib.hid hw
  clear hw
  go_enter Tryz.func27, Tryz.ntmps27
  go_wp2_with (go_at_call 59; refine H.out.mono ?_; rintro e w' ⟨rfl, rfl⟩)
  go_loopw [8, 19] (fun x i wr => x = .int .u64 0 ∧ i = .int .i64 0 ∧ wr = w') (fun _ _ _ => 0)
  case atStart => exact ⟨rfl, rfl, rfl⟩
  case round =>
    obtain ⟨rfl, rfl, rfl⟩ := hrel
    go_wp2
    go_ret2
    exact ⟨rfl, rfl⟩

/-- the bytes once k bytes of the words l lie at a place -/
def storeF (f : Nat → Nat) (at_ : Nat) (l : List Nat) (k : Nat) (j : Nat) : Nat := if at_ ≤ j ∧ j < at_ + k then l.getD ((j - at_) / 8) 0 / 256 ^ ((j - at_) % 8) % 256 else f j
theorem storeF_zero (f : Nat → Nat) (at_ : Nat) (l : List Nat) : storeF f at_ l 0 = f := by
  funext j
  unfold storeF
  rw [if_neg (by omega)]
theorem storeF_succ (f : Nat → Nat) (at_ k : Nat) (l : List Nat) : (fun j => if j = at_ + k then l.getD (k / 8) 0 / 256 ^ (k % 8) % 256 else storeF f at_ l k j) = storeF f at_ l (k + 1) := by
  funext j
  unfold storeF
  by_cases h : j = at_ + k
  · rw [if_pos h, if_pos (by omega), show j - at_ = k by omega]
  · by_cases h2 : at_ ≤ j ∧ j < at_ + k
    · rw [if_neg h, if_pos h2, if_pos (by omega)]
    · rw [if_neg h, if_neg h2, if_neg (by omega)]

theorem store_bad (W : World) (ga : Nat) (at_ : Int) (er : Int) (A : Option Addr) (n cap : Nat) (hw : Calls Tryz.prog 59 #[.pointer (some ⟨ga, 0, none⟩), .int .i64 at_, .int .i64 (n : Int)] W fun e w' => e = .returned (.tuple #[.slice none 0 0, .int .i64 er]) ∧ w' = W) :
    Calls Tryz.prog 32 #[.pointer (some ⟨ga, 0, none⟩), .int .i64 at_, .slice A n cap] W fun e w' => e = .returned (.int .i64 er) ∧ w' = W := by
  have H := Lib.hid hw
  clear hw
  go_enter Tryz.func32, Tryz.ntmps32
  go_wp2_with (go_at_call 59; refine H.out.mono ?_; rintro e w' ⟨rfl, rfl⟩)
  go_loopw [20] (fun i wr => i = .int .i64 0 ∧ wr = w') (fun _ _ => 0)
  case atStart => exact ⟨rfl, rfl⟩
  case round =>
    obtain ⟨rfl, rfl⟩ := hrel
    go_wp2
    go_ret
    exact ⟨rfl, rfl⟩

set_option maxRecDepth 100000 in
set_option maxHeartbeats 1600000 in
theorem store_yes (W : World) (ga gb N : Nat) (f : Nat → Nat) (at_ : Nat) (l : List Nat) (A : Option Addr) (cap : Nat) (ha : at_ + l.length * 8 ≤ N) (h8 : at_ % 8 = 0) (h : ArAt W ga gb N f) (hA : SlR W A (u64s l)) (hne : l ≠ [] → ∀ a, A = some a → a.block ≠ gb) (hl : ∀ x ∈ l, x < 18446744073709551616) :
    Calls Tryz.prog 32 #[.pointer (some ⟨ga, 0, none⟩), .int .i64 (at_ : Int), .slice A l.length cap] W fun e w' => e = .returned (.int .i64 0) ∧ ArAt w' ga gb N (storeF f at_ l (l.length * 8)) ∧ W.grownBy w' (some gb) := by
  have H := Lib.hid h
  have HA := Lib.hid hA
  have Hne := Lib.hid hne
  have Hl := Lib.hid hl
  have hN := h.2.2.2.2.2
  clear h hA hne hl
  have i5 : (l.length : Int) * 8 ≤ 1073741824 := by omega
  go_enter Tryz.func32, Tryz.ntmps32
  go_wp2_with (go_at_call 59; refine (words_yes _ ga gb N f at_ l.length ha h8 H.out).mono ?_; rintro e w' ⟨rfl, rfl⟩)
  go_loopw [20] (fun i wr => ∃ (k : Nat), k ≤ l.length * 8 ∧ i = .int .i64 k ∧ ArAt wr ga gb N (storeF f at_ l k) ∧ w'.grownBy wr (some gb)) (fun i _ => l.length * 8 - (intOf i).toNat)
  case atStart => exact ⟨0, Nat.zero_le _, rfl, by rw [storeF_zero]; exact H.out, World.grownBy.refl _ _⟩
  case round =>
    obtain ⟨k, hk, rfl, hm, hgr⟩ := hrel
    have Hgr := Lib.hid hgr
    by_cases hlt : k < l.length * 8
    · rw [partA_in (show at_ < N by omega)]
      have HM := Lib.hid hm
      have v := hm.2.2.1 (at_ + k) (by omega)
      have hf := hm.frozen (at_ + k)
      have hk8 : k / 8 < l.length := by omega
      have hnil : l ≠ [] := by rintro rfl; simp at hk8
      obtain ⟨b, off, rfl, _, hx⟩ := (Ar.SlR.word (Ar.SlR.grown HA.out hgr (fun hn => Hne.out hnil)) hk8)
      have x0 := hx (k / 8) hk8
      have xl := Hl.out _ (List.getElem_mem hk8)
      have xd : Hid (l.getD (k / 8) 0 = l[k / 8]) := Lib.hid (by simp [List.getD, hk8])
      obtain ⟨x, hxe⟩ : ∃ x, l[k / 8] = x := ⟨_, rfl⟩
      rw [hxe] at x0 xl xd
      have s1 : Int.tdiv (k : Int) 8 = ((k / 8 : Nat) : Int) := by rw [Int.tdiv_eq_ediv_of_nonneg (by omega)]; simp
      have s2 : Int.tmod (k : Int) 8 = ((k % 8 : Nat) : Int) := by rw [Int.tmod_eq_emod_of_nonneg (by omega)]; simp
      have s3 : IntKind.i64.wrap ((k / 8 : Nat) : Int) = ((k / 8 : Nat) : Int) := by rw [IntKind.wrap_i64]; omega
      have s4 : IntKind.i64.wrap ((k % 8 : Nat) : Int) = ((k % 8 : Nat) : Int) := by rw [IntKind.wrap_i64]; omega
      have s6 : IntKind.i64.wrap (8 * ((k % 8 : Nat) : Int)) = 8 * ((k % 8 : Nat) : Int) := by rw [IntKind.wrap_i64]; omega
      have s7 : ((8 : Int) * ((k % 8 : Nat) : Int)).toNat = 8 * (k % 8) := by omega
      have i6 : ((k / 8 : Nat) : Int) < (l.length : Int) := by omega
      have i7 : (0 : Int) ≤ ((k / 8 : Nat) : Int) := by omega
      have i8 : (0 : Int) ≤ ((k % 8 : Nat) : Int) := by omega
      clear hgr hm hx hxe
      go_wp2
      have e : (x : Int) / 2 ^ (8 * (k % 8)) % 256 = ((x / 256 ^ (k % 8) % 256 : Nat) : Int) := by rw [pow256]; push_cast; rfl
      rw [e]
      exact ⟨⟨k + 1, by omega, by go_num, by rw [← storeF_succ, xd.out]; exact HM.out.set _ _ (by omega) (Nat.mod_lt _ (by omega)), gb_set Hgr.out _ _⟩, by simp [intOf]; omega⟩
    · have hkn : k = l.length * 8 := by omega
      have hm' : ArAt wr ga gb N (storeF f at_ l (l.length * 8)) := by rw [hkn] at hm; exact hm
      have Hm := Lib.hid hm'
      clear hm hm' hgr hkn
      go_wp2
      go_ret
      exact ⟨rfl, Hm.out, Hgr.out⟩
end Go.Proofs.YtflkoabgkgegjaaGreatDoor.Ar
/- The contracts of OnesCount64, OnesCount, New, and of what New refuses. No condition. -/
namespace Go.Proofs.YtflkoabgkgegjaaGreatDoor.Ar
open Go.RowKit

theorem info_u8 : (Tryz.prog.info? 5).map (fun i => (i.zero, i.size, i.bytes)) = some (some (.int .u8 0), 1, 1) := by kernel_rfl



set_option maxRecDepth 100000 in
theorem onescount_any (x : Nat) (hx : x < 18446744073709551616) (w : World) : Calls Tryz.prog 65 #[.int .u64 (x : Int)] w fun e w' => e = .returned (.int .i64 ((pop x : Nat) : Int)) ∧ w' = w := by
  go_enter Tryz.func65, Tryz.ntmps65
  go_wp2_with (go_at_call 63; refine (ones_any x hx _).mono ?_; rintro e w' ⟨rfl, rfl⟩)
  go_ret
  exact ⟨rfl, rfl⟩

theorem made_zero (k : Nat) : madeCells #[Value.int .u8 0] (k * 1) = (u8s (List.replicate k 0)).toArray := by
  apply Array.ext
  · simp [madeCells, u8s]
  · intro j h1 h2
    have e : j % 1 = 0 := Nat.mod_one j
    simp [madeCells, u8s, e]
theorem run_new (n : Nat) (h : n ≤ 1073741824) (w : World) : (Instr.makeSlice 113 (.int .i64 (n : Int)) (.int .i64 (n : Int))).run Tryz.prog w = .ok (.slice (some ⟨w.heap.size, 0, none⟩) n n) (w.alloc (.cells (u8s (List.replicate n 0)).toArray 5)) := by
  obtain ⟨i, hi, hz, hs, hb⟩ := info_parts info_u8
  have := run_make (P := Tryz.prog) w 113 5 i _ Tryz.underlying113 hi hz .i64 .i64 (n : Int) (n : Int) (by omega) (by omega) (by rw [hb]; omega) (by omega)
  rw [show ((n : Int)).toNat = n by omega, hs] at this
  rw [this]
  have e := made_zero n
  simp only [Value.cells] at e ⊢
  rw [e]

theorem ArAt_new (w : World) (N : Nat) (hN : N ≤ 1073741824) : ArAt ((w.alloc (.cells (u8s (List.replicate N 0)).toArray 5)).alloc (.cells #[.slice (some ⟨w.heap.size, 0, none⟩) N N] 130)) (w.heap.size + 1) w.heap.size N (fun _ => 0) := by
  have e1 := heap_alloc_new (w.alloc (.cells (u8s (List.replicate N 0)).toArray 5)) (.cells #[.slice (some ⟨w.heap.size, 0, none⟩) N N] 130)
  rw [World.size_alloc] at e1
  have e2 := (Below.heap_alloc (w.alloc (.cells (u8s (List.replicate N 0)).toArray 5)) (.cells #[.slice (some ⟨w.heap.size, 0, none⟩) N N] 130) w.heap.size (by simp)).trans (heap_alloc_new w _)
  refine ⟨e1, ⟨_, e2, by simp [u8s]⟩, fun i hi => ?_, fun _ => (show 0 < 256 by omega), by omega, hN⟩
  rw [cell_of_row _ _ i _ _ _ e2]
  simp [u8s, hi]

set_option maxRecDepth 100000 in
theorem new_yes (N : Nat) (w : World) (h1 : 65536 ≤ N) (h2 : N ≤ 1073741824) (hp : pop N = 1) : Calls Tryz.prog 42 #[.int .i64 (N : Int)] w fun e w' => e = .returned (.pointer (some ⟨w.heap.size + 1, 0, none⟩)) ∧ ArAt w' (w.heap.size + 1) w.heap.size N (fun _ => 0) ∧ Below w.heap.size w w' := by
  have i1 : (65536 : Int) ≤ (N : Int) := by omega
  have i2 : (N : Int) ≤ 1073741824 := by omega
  have hm := run_new N h2
  have H : Hid (ArAt ((w.alloc (.cells (u8s (List.replicate N 0)).toArray 5)).alloc (.cells #[.slice (some ⟨w.heap.size, 0, none⟩) N N] 130)) (w.heap.size + 1) w.heap.size N (fun _ => 0)) := Lib.hid (ArAt_new w N h2)
  have Hp := Lib.hid hp
  clear hp
  go_enter Tryz.func42, Tryz.ntmps42
  go_wp2_with (go_at_call 65; refine (onescount_any N (by omega) _).mono ?_; rintro e w' ⟨rfl, rfl⟩; rw [Hp.out])
  go_ret
  exact ⟨rfl, H.out, ((Below.refl _ _).alloc (Nat.le_refl _) _).alloc (by simp) _⟩
set_option maxRecDepth 100000 in
theorem new_small (n : Int) (w : World) (h : n < 65536) : Calls Tryz.prog 42 #[.int .i64 n] w fun e w' => e = .returned (.pointer none) ∧ w' = w := by
  go_enter Tryz.func42, Tryz.ntmps42
  go_wp2
  go_ret
  exact ⟨rfl, rfl⟩
set_option maxRecDepth 100000 in
theorem new_great (n : Int) (w : World) (h : 1073741824 < n) : Calls Tryz.prog 42 #[.int .i64 n] w fun e w' => e = .returned (.pointer none) ∧ w' = w := by
  go_enter Tryz.func42, Tryz.ntmps42
  go_wp2
  go_ret
  exact ⟨rfl, rfl⟩
set_option maxRecDepth 100000 in
theorem new_no (N : Nat) (w : World) (h1 : 65536 ≤ N) (h2 : N ≤ 1073741824) (hp : pop N ≠ 1) : Calls Tryz.prog 42 #[.int .i64 (N : Int)] w fun e w' => e = .returned (.pointer none) ∧ w' = w := by
  have i1 : (65536 : Int) ≤ (N : Int) := by omega
  have i2 : (N : Int) ≤ 1073741824 := by omega
  obtain ⟨p, hpe⟩ : ∃ p, pop N = p := ⟨_, rfl⟩
  rw [hpe] at hp
  have Hp := Lib.hid hpe
  have i3 : ((p : Int) != 1) = true := by simp; omega
  have i4 : ¬ (p : Int) = 1 := by omega
  clear hpe
  go_enter Tryz.func42, Tryz.ntmps42
  go_wp2_with (go_at_call 65; refine (onescount_any N (by omega) _).mono ?_; rintro e w' ⟨rfl, rfl⟩; rw [Hp.out])
  go_ret
  exact ⟨rfl, rfl⟩
theorem pop_64k : pop 65536 = 1 := by decide +kernel
end Go.Proofs.YtflkoabgkgegjaaGreatDoor.Ar
