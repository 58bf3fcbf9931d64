/- What is answered of an arena that is not there; the reference's arena: New, In, Fill. No condition. -/
import Derived.Test.YtcbaedknajeofaaProg
import Derived.Test.YtcbaedknajeofaaL1
import Derived.WalkKit
import Derived.WalkLawsBesides
import Derived.WalkSpells
import Derived.Deep.QuietTactic
import Derived.BigQuiet
import Derived.Deep.RegionHeld3
import Derived.Deep.RegionLaw
import Derived.Outline
namespace Go.Proofs.Ytcbaedknajeofaa
open Go.RowKit




theorem part_nil (W : World) (at_ n : Int) : Calls Try.prog 27 #[.pointer none, .int .i64 at_, .int .i64 n] W fun e w' => e = .returned (.tuple #[.slice none 0 0, .int .i64 1]) ∧ w' = W := by
  go_enter Try.func27, Try.ntmps27
  go_wp2
  go_ret2
  exact ⟨rfl, rfl⟩
set_option maxRecDepth 100000 in
theorem words_nil (W : World) (at_ n : Int) : Calls Try.prog 26 #[.pointer none, .int .i64 at_, .int .i64 n] W fun e w' => e = .returned (.tuple #[.slice none 0 0, .int .i64 1]) ∧ w' = W := by
  go_enter Try.func26, Try.ntmps26
  go_wp2_with (go_at_call 27; refine (part_nil _ _ _).mono ?_; rintro e w' ⟨rfl, rfl⟩)
  go_ret2
  exact ⟨rfl, rfl⟩
theorem load_nil (W : World) (at_ : Int) : Calls Try.prog 12 #[.pointer none, .int .i64 at_] W fun e w' => e = .returned (.tuple #[.int .u64 0, .int .i64 1]) ∧ w' = W := by
  go_enter Try.func12, Try.ntmps12
  go_wp2_with (go_at_call 26; refine (words_nil _ _ _).mono ?_; rintro e w' ⟨rfl, rfl⟩)
  go_loopw [8, 19] (fun x i wr => x = .int .u64 0 ∧ i = .int .i64 0 ∧ wr = w') (fun _ _ _ => 0)
  case atStart => exact ⟨rfl, rfl, rfl⟩
  case round =>
    obtain ⟨rfl, rfl, rfl⟩ := hrel
    go_wp2
    go_ret2
    exact ⟨rfl, rfl⟩
theorem store_nil (W : World) (at_ : Int) : Calls Try.prog 15 #[.pointer none, .int .i64 at_, .slice none 0 0] W fun e w' => e = .returned (.int .i64 1) ∧ w' = W := by
  go_enter Try.func15, Try.ntmps15
  go_wp2_with (go_at_call 26; refine (words_nil _ _ _).mono ?_; rintro e w' ⟨rfl, rfl⟩)
  go_loopw [20] (fun i wr => i = .int .i64 0 ∧ wr = w') (fun _ _ => 0)
  case atStart => exact ⟨rfl, rfl⟩
  case round =>
    obtain ⟨rfl, rfl⟩ := hrel
    go_wp2
    go_ret
    exact ⟨rfl, rfl⟩
theorem fill_nil (W : World) (at_ n c : Int) : Calls Try.prog 17 #[.pointer none, .int .i64 at_, .int .i64 n, .int .u8 c] W fun e w' => e = .returned (.int .i64 1) ∧ w' = W := by
  go_enter Try.func17, Try.ntmps17
  go_wp2_with (go_at_call 27; refine (part_nil _ _ _).mono ?_; rintro e w' ⟨rfl, rfl⟩)
  go_loopw [21] (fun i wr => i = .int .i64 0 ∧ wr = w') (fun i _ => 0)
  case atStart => exact ⟨rfl, rfl⟩
  case round =>
    obtain ⟨rfl, rfl⟩ := hrel
    go_wp2
    go_ret
    exact ⟨rfl, rfl⟩
theorem size_nil (W : World) : Calls Try.prog 14 #[.pointer none] W fun e w' => e = .returned (.int .i64 0) ∧ w' = W := by
  go_enter Try.func14, Try.ntmps14
  go_wp2
  go_ret
  exact ⟨rfl, rfl⟩

/-- the reference's arena of N bytes lies at its block, its bytes at theirs -/
def RefAt (W : World) (ra rb N : Nat) (f : Nat → Nat) : Prop :=
  W.heap[ra]? = some (.cells #[.int .i64 (N : Int), .slice (some ⟨rb, 0, none⟩) N N] 63 (0, 0)) ∧ (∃ cs : Array Value, W.heap[rb]? = some (.cells cs 5 (0, 0)) ∧ cs.size = N) ∧ (∀ i, i < N → W.cell? ⟨rb, i, none⟩ = some (.int .u8 ((f i : Nat) : Int))) ∧ (∀ i, f i < 256) ∧ ra ≠ rb ∧ N ≤ 1073741824
theorem RefAt.sizec {W : World} {ra rb N : Nat} {f : Nat → Nat} (h : RefAt W ra rb N f) : W.cell? ⟨ra, 0, none⟩ = some (.int .i64 (N : Int)) := cell_of_row W ra 0 _ _ _ h.1
theorem RefAt.bc {W : World} {ra rb N : Nat} {f : Nat → Nat} (h : RefAt W ra rb N f) : W.cell? ⟨ra, 1, none⟩ = some (.slice (some ⟨rb, 0, none⟩) N N) := cell_of_row W ra 1 _ _ _ h.1
set_option maxRecDepth 100000 in
theorem in_yes (W : World) (ra rb N : Nat) (f : Nat → Nat) (at_ n : Nat) (ha : at_ + n ≤ N) (h : RefAt W ra rb N f) : Calls Try.prog 29 #[.pointer (some ⟨ra, 0, none⟩), .int .i64 (at_ : Int), .int .i64 (n : Int)] W fun e w' => e = .returned (.bool true) ∧ w' = W := by
  have c0 := h.sizec
  have hN := h.2.2.2.2.2
  have i1 : (0 : Int) ≤ (at_ : Int) := by omega
  have i2 : (0 : Int) ≤ (n : Int) := by omega
  have i3 : (at_ : Int) ≤ (N : Int) := by omega
  have i4 : (n : Int) ≤ (N : Int) := by omega
  have i5 : (at_ : Int) + (n : Int) ≤ (N : Int) := by omega
  have s1 : IntKind.i64.wrap ((at_ : Int) + (n : Int)) = (at_ : Int) + (n : Int) := by rw [IntKind.wrap_i64]; omega
  clear h hN ha
  go_enter Try.func29, Try.ntmps29
  go_wp2
  go_ret
  exact ⟨rfl, rfl⟩
set_option maxRecDepth 100000 in
theorem in_no (W : World) (ra rb N : Nat) (f : Nat → Nat) (at_ n : Int) (ho : outR N at_ n) (h : RefAt W ra rb N f) : Calls Try.prog 29 #[.pointer (some ⟨ra, 0, none⟩), .int .i64 at_, .int .i64 n] W fun e w' => e = .returned (.bool false) ∧ w' = W := by
  have c0 := h.sizec
  have hN := h.2.2.2.2.2
  have i5 : (N : Int) ≤ 1073741824 := by omega
  clear h hN
  go_enter Try.func29, Try.ntmps29
  by_cases h1 : at_ < 0
  · clear ho
    go_wp2
    go_ret
    exact ⟨rfl, rfl⟩
  by_cases h2 : n < 0
  · clear ho
    have h1' : 0 ≤ at_ := by omega
    go_wp2
    go_ret
    exact ⟨rfl, rfl⟩
  by_cases h3 : (N : Int) < at_
  · clear ho
    have h1' : 0 ≤ at_ := by omega
    have h2' : 0 ≤ n := by omega
    go_wp2
    go_ret
    exact ⟨rfl, rfl⟩
  by_cases h4 : (N : Int) < n
  · clear ho
    have h1' : 0 ≤ at_ := by omega
    have h2' : 0 ≤ n := by omega
    have h3' : at_ ≤ (N : Int) := by omega
    go_wp2
    go_ret
    exact ⟨rfl, rfl⟩
  have h1' : 0 ≤ at_ := by omega
  have h2' : 0 ≤ n := by omega
  have h3' : at_ ≤ (N : Int) := by omega
  have h4' : n ≤ (N : Int) := by omega
  have s1 : IntKind.i64.wrap (at_ + n) = at_ + n := by rw [IntKind.wrap_i64]; omega
  have h5 : (N : Int) < at_ + n := by unfold outR at ho; omega
  clear ho h1 h2 h3 h4
  go_wp2
  go_ret
  exact ⟨ret_bool (a := decide (at_ + n ≤ (N : Int))) (decide_eq_false (by omega)), rfl⟩

theorem RefAt_new (w : World) (N : Nat) (hN : N ≤ 1073741824) : RefAt ((w.alloc (.cells (u8s (List.replicate N 0)).toArray 5)).alloc (.cells #[.int .i64 (N : Int), .slice (some ⟨w.heap.size, 0, none⟩) N N] 63)) (w.heap.size + 1) w.heap.size N (fun _ => 0) := by
  have e1 := heap_alloc_new (w.alloc (.cells (u8s (List.replicate N 0)).toArray 5)) (.cells #[.int .i64 (N : Int), .slice (some ⟨w.heap.size, 0, none⟩) N N] 63)
  rw [World.size_alloc] at e1
  have e2 := (Below.heap_alloc (w.alloc (.cells (u8s (List.replicate N 0)).toArray 5)) (.cells #[.int .i64 (N : Int), .slice (some ⟨w.heap.size, 0, none⟩) N N] 63) w.heap.size (by simp)).trans (heap_alloc_new w _)
  refine ⟨e1, ⟨_, e2, by simp [u8s]⟩, fun i hi => ?_, fun _ => (show 0 < 256 by omega), by omega, hN⟩
  rw [cell_of_row _ _ i _ _ _ e2]
  simp [u8s, hi]
theorem rnew_any (N : Nat) (w : World) (h2 : N ≤ 1073741824) : Calls Try.prog 18 #[.int .i64 (N : Int)] w fun e w' => e = .returned (.pointer (some ⟨w.heap.size + 1, 0, none⟩)) ∧ RefAt w' (w.heap.size + 1) w.heap.size N (fun _ => 0) ∧ Below w.heap.size w w' := by
  have hm := run_new N h2
  have H := Lib.hid (RefAt_new w N h2)
  go_enter Try.func18, Try.ntmps18
  go_wp2
  go_ret
  exact ⟨rfl, H.out, ((Below.refl _ _).alloc (Nat.le_refl _) _).alloc (by simp) _⟩
theorem RefAt.set {W : World} {ra rb N : Nat} {f : Nat → Nat} (h : RefAt W ra rb N f) (i v : Nat) (hi : i < N) (hv : v < 256) :
    RefAt (W.setCell ⟨rb, i, none⟩ (.int .u8 ((v : Nat) : Int))) ra rb N (fun j => if j = i then v else f j) := by
  obtain ⟨cs, hc, hs⟩ := h.2.1
  refine ⟨(Below.heap_setCell W _ _ _ (by simpa using h.2.2.2.2.1)).trans h.1, ⟨_, heap_setCell_same W rb i cs _ _ hc, by simpa using hs⟩, fun j hj => ?_, fun j => ?_, h.2.2.2.2⟩
  · by_cases e : j = i
    · subst e
      show _ = some (Value.int .u8 (((if j = j then v else f j : Nat)) : Int))
      rw [if_pos rfl]
      exact World.cell?_setCell_same' W ⟨rb, j, none⟩ _ (by rw [h.2.2.1 j hj]; rfl)
    · show _ = some (Value.int .u8 (((if j = i then v else f j : Nat)) : Int))
      rw [if_neg e, World.cell?_setCell_other _ _ _ _ (by intro e2; injection e2 with _ e3; exact e e3.symm)]
      exact h.2.2.1 j hj
  · show (if j = i then v else f j) < 256
    split
    · exact hv
    · exact h.2.2.2.1 j
theorem RefAt.frozen {W : World} {ra rb N : Nat} {f : Nat → Nat} (h : RefAt W ra rb N f) (i : Nat) : W.frozen? ⟨rb, i, none⟩ = false := by
  obtain ⟨cs, hc, _⟩ := h.2.1
  exact frozen_of_row W rb i _ _ hc

theorem rfill_no (W : World) (ra rb N : Nat) (f : Nat → Nat) (at_ n c : Int) (ho : outR N at_ n) (h : RefAt W ra rb N f) : Calls Try.prog 24 #[.pointer (some ⟨ra, 0, none⟩), .int .i64 at_, .int .i64 n, .int .u8 c] W fun e w' => e = .returned (.int .i64 2) ∧ w' = W := by
  have H := Lib.hid h
  have O := Lib.hid ho
  clear h ho
  go_enter Try.func24, Try.ntmps24
  go_wp2_with (go_at_call 29; refine (in_no _ ra rb N f at_ n O.out H.out).mono ?_; rintro e w' ⟨rfl, rfl⟩)
  go_ret
  exact ⟨rfl, rfl⟩
set_option maxRecDepth 100000 in
set_option maxHeartbeats 1600000 in
theorem rfill_yes (W : World) (ra rb N : Nat) (f : Nat → Nat) (at_ n c : Nat) (ha : at_ + n ≤ N) (hc : c < 256) (h : RefAt W ra rb N f) :
    Calls Try.prog 24 #[.pointer (some ⟨ra, 0, none⟩), .int .i64 (at_ : Int), .int .i64 (n : Int), .int .u8 (c : Int)] W fun e w' => e = .returned (.int .i64 0) ∧ RefAt w' ra rb N (fillF f at_ n c) ∧ W.grownBy w' (some rb) := by
  have H := Lib.hid h
  have hN := h.2.2.2.2.2
  clear h
  go_enter Try.func24, Try.ntmps24
  go_wp2_with (go_at_call 29; refine (in_yes _ ra rb N f at_ n ha H.out).mono ?_; rintro e w' ⟨rfl, rfl⟩)
  go_loopw [9] (fun i wr => ∃ (k : Nat), k ≤ n ∧ i = .int .i64 k ∧ RefAt wr ra rb N (fillF f at_ k c) ∧ w'.grownBy wr (some rb)) (fun i _ => n - (intOf i).toNat)
  case atStart => exact ⟨0, Nat.zero_le _, rfl, by rw [fillF_zero]; exact H.out, World.grownBy.refl _ _⟩
  case round =>
    obtain ⟨k, hk, rfl, hm, hgr⟩ := hrel
    have Hgr := Lib.hid hgr
    by_cases hlt : k < n
    · have HM := Lib.hid hm
      have c1 := hm.bc
      have v := hm.2.2.1 (at_ + k) (by omega)
      have hf := hm.frozen (at_ + k)
      have i1 : (at_ : Int) + (k : Int) < (N : Int) := by omega
      have i2 : (0 : Int) ≤ (at_ : Int) + (k : Int) := by omega
      have i3 : (N : Int) ≤ 1073741824 := by omega
      have s1 : IntKind.i64.wrap ((at_ : Int) + (k : Int)) = (at_ : Int) + (k : Int) := by rw [IntKind.wrap_i64]; omega
      have s2 : ((at_ : Int) + (k : Int)).toNat = at_ + k := by omega
      have j1 : (k : Int) < (n : Int) := by omega
      clear hgr hm
      go_wp2
      exact ⟨⟨k + 1, by omega, by go_num, by rw [← fillF_succ]; exact HM.out.set _ _ (by omega) hc, gb_set Hgr.out _ _⟩, by simp [intOf]; omega⟩
    · have hkn : k = n := by omega
      have hm' : RefAt wr ra rb N (fillF f at_ n c) := by rw [hkn] at hm; exact hm
      have Hm := Lib.hid hm'
      clear hm hm' hgr
      go_wp2
      go_ret
      exact ⟨rfl, Hm.out, Hgr.out⟩
end Go.Proofs.Ytcbaedknajeofaa
