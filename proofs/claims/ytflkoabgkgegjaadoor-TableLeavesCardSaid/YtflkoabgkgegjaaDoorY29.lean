/- Plain arithmetic and laws of worlds for layer 1, no program in sight: bytes of a word, powers of two, blocks that change. No condition. And what follows from it. -/
import Derived.WalkKit
import Derived.Lib.Hide
import Derived.Test.YtflkoabgkgegjaaDoorY9
import Derived.Test.YtflkoabgkgegjaaDoorProg
import Derived.Test.YtflkoabgkgegjaaDoorY2
import Derived.WalkLawsBesides
import Derived.WalkSpells
import Derived.Deep.QuietTactic
import Derived.BigQuiet
import Derived.Deep.RegionHeld3
import Derived.Deep.RegionLaw
import Derived.Outline
/- Plain arithmetic and laws of worlds for layer 1, no program in sight: bytes of a word, powers of two, blocks that change. No condition. -/
namespace Go.Proofs.YtflkoabgkgegjaaDoor.Ar
open Go.RowKit

theorem ret_int {k : IntKind} {a b : Int} (h : a = b) : Ending.returned (.int k a) = .returned (.int k b) := by rw [h]

/-- bytes put together, the lowest first -/
def sumB (f : Nat → Nat) (at_ : Nat) : Nat → Nat
  | 0 => 0
  | k + 1 => sumB f at_ k + f (at_ + k) * 256 ^ k
theorem sumB_lt (f : Nat → Nat) (at_ : Nat) (hf : ∀ i, f i < 256) : ∀ k, sumB f at_ k < 256 ^ k
  | 0 => by simp [sumB]
  | k + 1 => by
    have h1 := sumB_lt f at_ hf k
    have h2 : (f (at_ + k) + 1) * 256 ^ k ≤ 256 * 256 ^ k := Nat.mul_le_mul_right _ (by have := hf (at_ + k); omega)
    rw [Nat.add_mul, Nat.one_mul] at h2
    simp only [sumB]
    rw [Nat.pow_succ, Nat.mul_comm (256 ^ k)]
    omega
theorem sumB_congr (f g : Nat → Nat) (at_ : Nat) : ∀ k, (∀ j, j < k → f (at_ + j) = g (at_ + j)) → sumB f at_ k = sumB g at_ k
  | 0, _ => rfl
  | k + 1, h => by simp only [sumB, sumB_congr f g at_ k (fun j hj => h j (by omega)), h k (by omega)]
/-- a word's bytes put together are the word -/
theorem sumB_word (f : Nat → Nat) (at_ x : Nat) (hf : ∀ j, j < 8 → f (at_ + j) = x / 256 ^ j % 256) : ∀ k, k ≤ 8 → sumB f at_ k = x % 256 ^ k
  | 0, _ => by simp [sumB, Nat.mod_one]
  | k + 1, hk => by
    simp only [sumB]
    rw [sumB_word f at_ x hf k (by omega), hf k (by omega), Nat.pow_succ, Nat.mod_mul, Nat.mul_comm (256 ^ k)]

theorem or_join (i x y : Nat) (hx : x < 2 ^ i) (hy : y % 2 ^ i = 0) : x ||| y = x + y := by
  rw [Nat.or_comm, nat_join i y x hy hx, Nat.add_comm]
theorem pow256 (k : Nat) : 256 ^ k = 2 ^ (8 * k) := by
  rw [show (256 : Nat) = 2 ^ 8 by rfl, ← Nat.pow_mul]
/-- a byte more, put on top -/
theorem or_byte (x c k : Nat) (hk : k < 8) (hx : x < 256 ^ k) (hc : c < 256) : bits .or .u64 (x : Int) (IntKind.u64.wrap ((c : Int) * 2 ^ (8 * k))) = ((x + c * 256 ^ k : Nat) : Int) ∧ x + c * 256 ^ k < 18446744073709551616 := by
  have h1 : (c + 1) * 256 ^ k ≤ 256 * 256 ^ k := Nat.mul_le_mul_right _ (by omega)
  rw [Nat.add_mul, Nat.one_mul] at h1
  have h2 : 256 * 256 ^ k ≤ 256 ^ 8 := by
    rw [Nat.mul_comm, ← Nat.pow_succ]
    exact Nat.pow_le_pow_right (by omega) (by omega)
  have h3 : (256 : Nat) ^ 8 = 18446744073709551616 := by decide
  have e0 : (c : Int) * 2 ^ (8 * k) = ((c * 256 ^ k : Nat) : Int) := by rw [pow256]; push_cast; rfl
  have e1 : IntKind.u64.wrap ((c * 256 ^ k : Nat) : Int) = ((c * 256 ^ k : Nat) : Int) := by rw [IntKind.wrap_u64]; omega
  rw [e0, e1, u64_or_nat _ _ (by omega) (by omega), or_join (8 * k) _ _ (by rw [← pow256]; exact hx) (by rw [← pow256]; exact Nat.mul_mod_left _ _)]
  exact ⟨rfl, by omega⟩

theorem setAt {B g i : Nat} {a w : World} (h : Below B a w) (hg : B ≤ g) (v : Value) : Below B a (w.setCell ⟨g, i, none⟩ v) := Below.setCell h hg v

theorem SlR.grown {w w' : World} {A : Option Addr} {xs : List Value} {g : Nat} (h : SlR w A xs) (hg : w.grownBy w' (some g)) (hne : xs ≠ [] → ∀ a, A = some a → a.block ≠ g) : SlR w' A xs := fun hn => by
  obtain ⟨b, off, e, hlt, hc⟩ := h hn
  exact ⟨b, off, e, Nat.lt_of_lt_of_le hlt hg.size, fun j u hu => (grown_cell hg hlt (hne hn _ e)).trans (hc j u hu)⟩
theorem SlR.ne {w : World} {A : Option Addr} {xs : List Value} (h : SlR w A xs) {g : Nat} (hg : w.heap.size ≤ g) : xs ≠ [] → ∀ a, A = some a → a.block ≠ g := fun hne a ha => by
  obtain ⟨b, off, e, hlt, _⟩ := h hne
  rw [ha] at e
  cases e
  show b ≠ g
  omega
def u8s (l : List Nat) : List Value := l.map fun (x : Nat) => .int .u8 (x : Int)
theorem u64s_length (l : List Nat) : (u64s l).length = l.length := by simp [u64s]
theorem u8s_length (l : List Nat) : (u8s l).length = l.length := by simp [u8s]
theorem SlR.word {w : World} {A : Option Addr} {l : List Nat} (h : SlR w A (u64s l)) {k : Nat} (hk : k < l.length) : ∃ b off, A = some ⟨b, off, none⟩ ∧ b < w.heap.size ∧ ∀ j (hj : j < l.length), w.cell? ⟨b, off + j, none⟩ = some (.int .u64 ((l[j] : Nat) : Int)) := by
  obtain ⟨b, off, e, hlt, hc⟩ := h (fun e => by have := u64s_length l; rw [e] at this; simp at this; omega)
  exact ⟨b, off, e, hlt, fun j hj => hc j _ (by simp [u64s, hj])⟩
theorem SlR.byte {w : World} {A : Option Addr} {l : List Nat} (h : SlR w A (u8s l)) {k : Nat} (hk : k < l.length) : ∃ b off, A = some ⟨b, off, none⟩ ∧ b < w.heap.size ∧ ∀ j (hj : j < l.length), w.cell? ⟨b, off + j, none⟩ = some (.int .u8 ((l[j] : Nat) : Int)) := by
  obtain ⟨b, off, e, hlt, hc⟩ := h (fun e => by have := u8s_length l; rw [e] at this; simp at this; omega)
  exact ⟨b, off, e, hlt, fun j hj => hc j _ (by simp [u8s, hj])⟩
theorem SlR_new (w : World) (cs : Array Value) (t : TypeId) : SlR (w.alloc (.cells cs t)) (some ⟨w.heap.size, 0, none⟩) cs.toList := fun _ =>
  ⟨w.heap.size, 0, rfl, by simp, fun j u hu => by
    rw [Nat.zero_add, World.cell?_alloc_new]
    simpa using hu⟩
end Go.Proofs.YtflkoabgkgegjaaDoor.Ar
/- An arena in memory; contracts of part, words, Size. No condition. -/
namespace Go.Proofs.YtflkoabgkgegjaaDoor.Ar
open Go.RowKit

/-- an arena of N bytes lies at its block, its bytes at theirs -/
def ArAt (W : World) (ga gb N : Nat) (f : Nat → Nat) : Prop :=
  W.heap[ga]? = some (.cells #[.slice (some ⟨gb, 0, none⟩) N N] 99 (0, 0)) ∧ (∃ cs : Array Value, W.heap[gb]? = some (.cells cs 5 (0, 0)) ∧ cs.size = N) ∧ (∀ i, i < N → W.cell? ⟨gb, i, none⟩ = some (.int .u8 ((f i : Nat) : Int))) ∧ (∀ i, f i < 256) ∧ ga ≠ gb ∧ N ≤ 1073741824
theorem ArAt.lt {W : World} {ga gb N : Nat} {f : Nat → Nat} (h : ArAt W ga gb N f) : ga < W.heap.size ∧ gb < W.heap.size := by
  constructor
  · rcases Nat.lt_or_ge ga W.heap.size with hlt | hge
    · exact hlt
    · have := h.1; rw [Array.getElem?_eq_none hge] at this; cases this
  · obtain ⟨cs, hc, _⟩ := h.2.1
    rcases Nat.lt_or_ge gb W.heap.size with hlt | hge
    · exact hlt
    · rw [Array.getElem?_eq_none hge] at hc; cases hc
theorem ArAt.below {W W' : World} {ga gb N : Nat} {f : Nat → Nat} (h : ArAt W ga gb N f) (hb : Below W.heap.size W W') : ArAt W' ga gb N f := by
  obtain ⟨cs, hc, hs⟩ := h.2.1
  exact ⟨(hb.block ga h.lt.1).trans h.1, ⟨cs, (hb.block gb h.lt.2).trans hc, hs⟩, fun i hi => (hb.cell (p := ⟨gb, i, none⟩) h.lt.2).trans (h.2.2.1 i hi), h.2.2.2⟩
theorem ArAt.frozen {W : World} {ga gb N : Nat} {f : Nat → Nat} (h : ArAt W ga gb N f) (i : Nat) : W.frozen? ⟨gb, i, none⟩ = false := by
  obtain ⟨cs, hc, _⟩ := h.2.1
  exact frozen_of_row W gb i _ _ hc
theorem ArAt.box {W : World} {ga gb N : Nat} {f : Nat → Nat} (h : ArAt W ga gb N f) : W.cell? ⟨ga, 0, none⟩ = some (.slice (some ⟨gb, 0, none⟩) N N) := cell_of_row W ga 0 _ _ _ h.1
theorem ArAt.congr {W : World} {ga gb N : Nat} {f g : Nat → Nat} (h : ArAt W ga gb N f) (hg : ∀ i, g i < 256) (he : ∀ i, i < N → f i = g i) : ArAt W ga gb N g :=
  ⟨h.1, h.2.1, fun i hi => by rw [h.2.2.1 i hi, he i hi], hg, h.2.2.2.2⟩
/-- a byte of the arena is set -/
theorem ArAt.set {W : World} {ga gb N : Nat} {f : Nat → Nat} (h : ArAt W ga gb N f) (i v : Nat) (hi : i < N) (hv : v < 256) :
    ArAt (W.setCell ⟨gb, i, none⟩ (.int .u8 ((v : Nat) : Int))) ga gb N (fun j => if j = i then v else f j) := by
  obtain ⟨cs, hc, hs⟩ := h.2.1
  refine ⟨(Below.heap_setCell W _ _ _ (by simpa using h.2.2.2.2.1)).trans h.1, ⟨_, heap_setCell_same W gb i cs _ _ hc, by simpa using hs⟩, fun j hj => ?_, fun j => ?_, h.2.2.2.2⟩
  · by_cases e : j = i
    · subst e
      show _ = some (Value.int .u8 (((if j = j then v else f j : Nat)) : Int))
      rw [if_pos rfl]
      exact World.cell?_setCell_same' W ⟨gb, j, none⟩ _ (by rw [h.2.2.1 j hj]; rfl)
    · show _ = some (Value.int .u8 (((if j = i then v else f j : Nat)) : Int))
      rw [if_neg e, World.cell?_setCell_other _ _ _ _ (by intro e2; injection e2 with _ e3; exact e e3.symm)]
      exact h.2.2.1 j hj
  · show (if j = i then v else f j) < 256
    split
    · exact hv
    · exact h.2.2.2.1 j

def partA (gb N at_ : Nat) : Addr := if N = at_ then ⟨gb, 0, none⟩ else ⟨gb, at_, none⟩
theorem run_part (gb N at_ n : Nat) (h : at_ + n ≤ N) (w : World) : (Instr.slice 45 (.slice (some ⟨gb, 0, none⟩) N N) (some (.int .i64 (at_ : Int))) (some (.int .i64 ((at_ : Int) + (n : Int)))) none).run Tryd.prog w = .ok (.slice (some (partA gb N at_)) n (N - at_)) w := by
  have hE : (Tryd.prog.info? 5).map (·.size) = some 1 := by kernel_rfl
  cases hq : Tryd.prog.info? 5 with
  | none => simp [hq] at hE
  | some i =>
    have hs : i.size = 1 := by simpa [hq] using hE
    have e1 : Tryd.prog.elem 45 = 5 := by simp [Program.elem, Tryd.underlying45]
    have := run_slice_lh (P := Tryd.prog) (w := w) (t := 45) (a := some ⟨gb, 0, none⟩) (len := N) (cap := N) (ht := by rw [e1]; exact Tryd.underlying45) .i64 .i64 (at_ : Int) ((at_ : Int) + (n : Int)) (by omega) (by omega) (by omega)
    rw [this]
    have e2 : ((at_ : Int) + (n : Int)).toNat - at_ = n := by omega
    by_cases hN : N = at_
    · subst hN
      simp [sizeOf, typeInfo, e1, hq, hs, sliced, partA, Result.andThen, e2]
    · have hadd : (⟨gb, 0, none⟩ : Addr).add at_ = ⟨gb, at_, none⟩ := by unfold Addr.add; split <;> simp_all
      simp [sizeOf, typeInfo, e1, hq, hs, sliced, partA, Result.andThen, e2, hN, hadd]

theorem part_yes (W : World) (ga gb N : Nat) (f : Nat → Nat) (at_ n : Nat) (ha : at_ + n ≤ N) (h : ArAt W ga gb N f) :
    Calls Tryd.prog 55 #[.pointer (some ⟨ga, 0, none⟩), .int .i64 (at_ : Int), .int .i64 (n : Int)] W fun e w' => e = .returned (.tuple #[.slice (some (partA gb N at_)) n (N - at_), .int .i64 0]) ∧ w' = W := by
  have c0 := h.box
  have hN := h.2.2.2.2.2
  have hs := run_part gb N at_ n ha
  have i1 : (0 : Int) ≤ (at_ : Int) := by omega
  have i2 : (0 : Int) ≤ (n : Int) := by omega
  have i3 : (at_ : Int) ≤ (N : Int) := by omega
  have i4 : (n : Int) ≤ (N : Int) - (at_ : Int) := by omega
  have i5 : (N : Int) ≤ 1073741824 := by omega
  have s1 : IntKind.i64.wrap ((at_ : Int) + (n : Int)) = (at_ : Int) + (n : Int) := by rw [IntKind.wrap_i64]; omega
  clear h
  go_enter Tryd.func55, Tryd.ntmps55
  go_wp2
  go_ret2
  exact ⟨rfl, rfl⟩
end Go.Proofs.YtflkoabgkgegjaaDoor.Ar
/- Contracts of part and words where they refuse, and of words. No condition. -/
namespace Go.Proofs.YtflkoabgkgegjaaDoor.Ar
open Go.RowKit


/-- a range lies outside an arena of N bytes -/
def outR (N : Nat) (at_ n : Int) : Prop := at_ < 0 ∨ n < 0 ∨ (N : Int) < at_ ∨ (N : Int) - at_ < n

set_option maxRecDepth 100000 in
theorem part_no (W : World) (ga gb N : Nat) (f : Nat → Nat) (at_ n : Int) (h : ArAt W ga gb N f) (ho : outR N at_ n) (a1 : -9223372036854775808 ≤ at_) (a2 : at_ ≤ 9223372036854775807) (n1 : -9223372036854775808 ≤ n) (n2 : n ≤ 9223372036854775807) :
    Calls Tryd.prog 55 #[.pointer (some ⟨ga, 0, none⟩), .int .i64 at_, .int .i64 n] W fun e w' => e = .returned (.tuple #[.slice none 0 0, .int .i64 2]) ∧ w' = W := by
  have c0 := h.box
  have hN := h.2.2.2.2.2
  have i5 : (N : Int) ≤ 1073741824 := by omega
  clear h hN
  go_enter Tryd.func55, Tryd.ntmps55
  by_cases h1 : at_ < 0
  · clear ho
    go_wp2
    go_ret2
    exact ⟨rfl, rfl⟩
  by_cases h2 : n < 0
  · clear ho
    go_wp2
    go_ret2
    exact ⟨rfl, rfl⟩
  by_cases h3 : (N : Int) < at_
  · clear ho
    go_wp2
    go_ret2
    exact ⟨rfl, rfl⟩
  have h4 : (N : Int) - at_ < n := by unfold outR at ho; omega
  have s1 : IntKind.i64.wrap ((N : Int) - at_) = (N : Int) - at_ := by rw [IntKind.wrap_i64]; omega
  clear ho
  go_wp2
  go_ret2
  exact ⟨rfl, rfl⟩

set_option maxRecDepth 100000 in
theorem words_yes (W : World) (ga gb N : Nat) (f : Nat → Nat) (at_ n : Nat) (ha : at_ + n * 8 ≤ N) (h8 : at_ % 8 = 0) (h : ArAt W ga gb N f) :
    Calls Tryd.prog 45 #[.pointer (some ⟨ga, 0, none⟩), .int .i64 (at_ : Int), .int .i64 (n : Int)] W fun e w' => e = .returned (.tuple #[.slice (some (partA gb N at_)) (n * 8) (N - at_), .int .i64 0]) ∧ w' = W := by
  have hN := h.2.2.2.2.2
  have H := Lib.hid h
  have i1 : (0 : Int) ≤ (at_ : Int) := by omega
  have i5 : (at_ : Int) ≤ 1073741824 := by omega
  have s1 : IntKind.i64.wrap ((n : Int) * 8) = ((n * 8 : Nat) : Int) := by rw [IntKind.wrap_i64]; omega
  have s2 : Int.tmod (at_ : Int) 8 = 0 := by rw [Int.tmod_eq_emod_of_nonneg (by omega)]; omega
  clear h
  go_enter Tryd.func45, Tryd.ntmps45
  go_wp2_with (go_at_call 55; refine (part_yes _ ga gb N f at_ (n * 8) ha H.out).mono ?_; rintro e w' ⟨rfl, rfl⟩)
  go_ret2
  exact ⟨rfl, rfl⟩

set_option maxRecDepth 100000 in
theorem words_align (W : World) (ga gb N : Nat) (f : Nat → Nat) (at_ n : Nat) (ha : at_ + n * 8 ≤ N) (h8 : at_ % 8 ≠ 0) (h : ArAt W ga gb N f) :
    Calls Tryd.prog 45 #[.pointer (some ⟨ga, 0, none⟩), .int .i64 (at_ : Int), .int .i64 (n : Int)] W fun e w' => e = .returned (.tuple #[.slice none 0 0, .int .i64 3]) ∧ w' = W := by
  have hN := h.2.2.2.2.2
  have H := Lib.hid h
  have i1 : (0 : Int) ≤ (at_ : Int) := by omega
  have i5 : (at_ : Int) ≤ 1073741824 := by omega
  have s1 : IntKind.i64.wrap ((n : Int) * 8) = ((n * 8 : Nat) : Int) := by rw [IntKind.wrap_i64]; omega
  have s2 : Int.tmod (at_ : Int) 8 = ((at_ % 8 : Nat) : Int) := by rw [Int.tmod_eq_emod_of_nonneg (by omega)]; omega
  have s3 : (((at_ % 8 : Nat) : Int) == 0) = false := by simp; omega
  have i6 : ((at_ % 8 : Nat) : Int) ≤ 7 := by omega
  have i7 : 0 < ((at_ % 8 : Nat) : Int) := by omega
  clear h
  go_enter Tryd.func45, Tryd.ntmps45
  go_wp2_with (go_at_call 55; refine (part_yes _ ga gb N f at_ (n * 8) ha H.out).mono ?_; rintro e w' ⟨rfl, rfl⟩)
  go_ret2
  exact ⟨rfl, rfl⟩

set_option maxRecDepth 100000 in
theorem words_no (W : World) (ga gb N : Nat) (f : Nat → Nat) (at_ : Int) (n : Nat) (hn : n ≤ 1000) (h : ArAt W ga gb N f) (ho : outR N at_ (n * 8 : Nat)) (a1 : -9223372036854775808 ≤ at_) (a2 : at_ ≤ 9223372036854775807) :
    Calls Tryd.prog 45 #[.pointer (some ⟨ga, 0, none⟩), .int .i64 at_, .int .i64 (n : Int)] W fun e w' => e = .returned (.tuple #[.slice none 0 0, .int .i64 2]) ∧ w' = W := by
  have H := Lib.hid h
  have O := Lib.hid ho
  have s1 : IntKind.i64.wrap ((n : Int) * 8) = ((n * 8 : Nat) : Int) := by rw [IntKind.wrap_i64]; omega
  clear h ho
  go_enter Tryd.func45, Tryd.ntmps45
  go_wp2_with (go_at_call 55; refine (part_no _ ga gb N f at_ (n * 8 : Nat) H.out O.out a1 a2 (by omega) (by omega)).mono ?_; rintro e w' ⟨rfl, rfl⟩)
  go_ret2
  exact ⟨rfl, rfl⟩
end Go.Proofs.YtflkoabgkgegjaaDoor.Ar
/- The contract of Fill. No condition. -/
namespace Go.Proofs.YtflkoabgkgegjaaDoor.Ar
open Go.RowKit



theorem partA_in {gb N at_ : Nat} (h : at_ < N) : partA gb N at_ = ⟨gb, at_, none⟩ := by unfold partA; rw [if_neg (by omega)]
def fillF (f : Nat → Nat) (at_ n c : Nat) (j : Nat) : Nat := if at_ ≤ j ∧ j < at_ + n then c else f j
theorem fillF_zero (f : Nat → Nat) (at_ c : Nat) : fillF f at_ 0 c = f := by
  funext j
  unfold fillF
  rw [if_neg (by omega)]
theorem fillF_succ (f : Nat → Nat) (at_ k c : Nat) : (fun j => if j = at_ + k then c else fillF f at_ k c j) = fillF f at_ (k + 1) c := by
  funext j
  unfold fillF
  by_cases h : j = at_ + k
  · rw [if_pos h, if_pos (by omega)]
  · by_cases h2 : at_ ≤ j ∧ j < at_ + k
    · rw [if_neg h, if_pos h2, if_pos (by omega)]
    · rw [if_neg h, if_neg h2, if_neg (by omega)]

theorem fill_no (W : World) (ga gb N : Nat) (f : Nat → Nat) (at_ n : Int) (c : Nat) (h : ArAt W ga gb N f) (ho : outR N at_ n) (a1 : -9223372036854775808 ≤ at_) (a2 : at_ ≤ 9223372036854775807) (n1 : -9223372036854775808 ≤ n) (n2 : n ≤ 9223372036854775807) :
    Calls Tryd.prog 29 #[.pointer (some ⟨ga, 0, none⟩), .int .i64 at_, .int .i64 n, .int .u8 (c : Int)] W fun e w' => e = .returned (.int .i64 2) ∧ w' = W := by
  have H := Lib.hid h
  have O := Lib.hid ho
  clear h ho
  go_enter Tryd.func29, Tryd.ntmps29
  go_wp2_with (go_at_call 55; refine (part_no _ ga gb N f at_ n H.out O.out a1 a2 n1 n2).mono ?_; rintro e w' ⟨rfl, rfl⟩)
  go_loopw [21] (fun i wr => i = .int .i64 0 ∧ wr = w') (fun i _ => 0)
  case atStart => exact ⟨rfl, rfl⟩
  case round =>
    obtain ⟨rfl, rfl⟩ := hrel
    go_wp2
    go_ret
    exact ⟨rfl, rfl⟩

set_option maxRecDepth 100000 in
set_option maxHeartbeats 1600000 in
theorem fill_yes (W : World) (ga gb N : Nat) (f : Nat → Nat) (at_ n c : Nat) (ha : at_ + n ≤ N) (hc : c < 256) (h : ArAt W ga gb N f) :
    Calls Tryd.prog 29 #[.pointer (some ⟨ga, 0, none⟩), .int .i64 (at_ : Int), .int .i64 (n : Int), .int .u8 (c : Int)] W fun e w' => e = .returned (.int .i64 0) ∧ ArAt w' ga gb N (fillF f at_ n c) ∧ W.grownBy w' (some gb) := by
  have H := Lib.hid h
  have hN := h.2.2.2.2.2
  have i5 : (n : Int) ≤ 1073741824 := by omega
  clear h
  go_enter Tryd.func29, Tryd.ntmps29
  go_wp2_with (go_at_call 55; refine (part_yes _ ga gb N f at_ n ha H.out).mono ?_; rintro e w' ⟨rfl, rfl⟩)
  go_loopw [21] (fun i wr => ∃ (k : Nat), k ≤ n ∧ i = .int .i64 k ∧ ArAt wr ga gb N (fillF f at_ k c) ∧ w'.grownBy wr (some gb)) (fun i _ => n - (intOf i).toNat)
  case atStart => exact ⟨0, Nat.zero_le _, rfl, by rw [fillF_zero]; exact H.out, World.grownBy.refl _ _⟩
  case round =>
    obtain ⟨k, hk, rfl, hm, hgr⟩ := hrel
    have Hgr := Lib.hid hgr
    by_cases hlt : k < n
    · rw [partA_in (show at_ < N by omega)]
      have HM := Lib.hid hm
      have v := hm.2.2.1 (at_ + k) (by omega)
      have hf := hm.frozen (at_ + k)
      clear hgr hm
      go_wp2
      exact ⟨⟨k + 1, by omega, by go_num, by rw [← fillF_succ]; exact HM.out.set _ _ (by omega) hc, gb_set Hgr.out _ _⟩, by simp [intOf]; omega⟩
    · have hkn : k = n := by omega
      have hm' : ArAt wr ga gb N (fillF f at_ n c) := by rw [hkn] at hm; exact hm
      have Hm := Lib.hid hm'
      clear hm hm' hgr
      go_wp2
      go_ret
      exact ⟨rfl, Hm.out, Hgr.out⟩
end Go.Proofs.YtflkoabgkgegjaaDoor.Ar
