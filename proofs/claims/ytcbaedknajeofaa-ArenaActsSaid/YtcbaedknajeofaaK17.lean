/- Acts in memory; the contract of few; which sizes may be. Condition of few: the acts are read. -/
import Derived.Test.YtcbaedknajeofaaProg
import Derived.Test.YtcbaedknajeofaaK16
import Derived.Test.YtcbaedknajeofaaK14
import Derived.WalkKit
import Derived.WalkLawsBesides
import Derived.WalkSpells
import Derived.Deep.QuietTactic
import Derived.BigQuiet
import Derived.Deep.RegionHeld3
import Derived.Deep.RegionLaw
import Derived.Outline
namespace Go.Proofs.Ytcbaedknajeofaa
open Go.RowKit

theorem pop_zero (x : Nat) (hx : x < 18446744073709551616) (h : pop x = 0) : x = 0 := by
  unfold pop at h
  rw [List.countP_eq_zero] at h
  apply Nat.eq_of_testBit_eq
  intro i
  rw [Nat.zero_testBit]
  by_cases hi : i < 64
  · have := h i (by simpa using hi)
    simpa using this
  · apply Nat.testBit_lt_two_pow
    exact Nat.lt_of_lt_of_le hx (Nat.le_trans (show 18446744073709551616 ≤ 2 ^ 64 by decide) (Nat.pow_le_pow_right (by omega) (by omega)))
theorem pop_one (x : Nat) (hx : x < 18446744073709551616) (h : pop x = 1) : ∃ b, b < 64 ∧ x = 2 ^ b := by
  have h0 : x ≠ 0 := by
    rintro rfl
    revert h
    decide +kernel
  have hl := Nat.log2_lt (n := x) (k := 64) h0
  have hb : Nat.log2 x < 64 := hl.2 (by simpa using hx)
  refine ⟨Nat.log2 x, hb, ?_⟩
  have ht : x.testBit (Nat.log2 x) = true := Nat.testBit_log2 h0
  have h2 := pop_off x (Nat.log2 x) hb ht
  have h3 : pop (x ^^^ 2 ^ Nat.log2 x) = 0 := by omega
  have h4 : x ^^^ 2 ^ Nat.log2 x < 2 ^ 64 := Nat.xor_lt_two_pow (by simpa using hx) (Nat.pow_lt_pow_right (by omega) hb)
  have h5 := pop_zero _ (by simpa using h4) h3
  have h6 : x ^^^ 2 ^ Nat.log2 x ^^^ 2 ^ Nat.log2 x = 0 ^^^ 2 ^ Nat.log2 x := by rw [h5]
  rw [Nat.xor_assoc, Nat.xor_self, Nat.xor_zero, Nat.zero_xor] at h6
  exact h6
theorem pop_pow : ∀ k, k ≤ 14 → pop (65536 * 2 ^ k) = 1 := by
  intro k hk
  have : ∀ k : Fin 15, pop (65536 * 2 ^ k.val) = 1 := by decide +kernel
  exact this ⟨k, by omega⟩
theorem may_yes {n : Int} {p : Nat} (h : MayS n p) (e : (p : Int) = n) : 65536 ≤ p ∧ p ≤ 1073741824 ∧ pop p = 1 := by
  obtain ⟨k, hk, hp, _, _⟩ := h
  have := pow_bound k hk
  have h2 := Nat.two_pow_pos k
  exact ⟨by omega, by omega, by rw [hp]; exact pop_pow k hk⟩
theorem may_no {n : Int} {p : Nat} (h : MayS n p) (e : (p : Int) ≠ n) (hf : ¬ (1048576 < n ∧ n ≤ 1073741824)) : n < 65536 ∨ 1073741824 < n ∨ (65536 ≤ n ∧ n ≤ 1073741824 ∧ pop n.toNat ≠ 1) := by
  by_cases h1 : n < 65536
  · exact .inl h1
  by_cases h2 : 1073741824 < n
  · exact .inr (.inl h2)
  refine .inr (.inr ⟨by omega, by omega, fun hp => ?_⟩)
  obtain ⟨m, rfl⟩ := Int.eq_ofNat_of_zero_le (show 0 ≤ n by omega)
  rw [Int.toNat_natCast] at hp
  obtain ⟨b, hb, hm⟩ := pop_one m (by omega) hp
  obtain ⟨k, hk, hpk, hj, hs⟩ := h
  have b16 : 16 ≤ b := by
    rcases Nat.lt_or_ge b 16 with h3 | h3
    · have : 2 ^ b < 2 ^ 16 := Nat.pow_lt_pow_right (by omega) h3
      have e : (2 : Nat) ^ 16 = 65536 := by decide
      omega
    · exact h3
  have hmq : m = 65536 * 2 ^ (b - 16) := by
    rw [hm, show (65536 : Nat) = 2 ^ 16 by decide, ← Nat.pow_add]
    congr 1
    omega
  have hpm : m ≤ p := by
    rcases hs with h3 | h3 <;> omega
  rcases Nat.lt_or_ge (b - 16) k with h3 | h3
  · have := hj (b - 16) h3
    omega
  · have : 2 ^ k ≤ 2 ^ (b - 16) := Nat.pow_le_pow_right (by omega) h3
    omega

theorem may_ex (n : Int) : ∃ p, MayS n p := by
  have key : ∀ k, k ≤ 14 → (∃ p, MayS n p) ∨ ∀ j, j < k → ((65536 * 2 ^ j : Nat) : Int) < n := by
    intro k
    induction k with
    | zero => exact fun _ => .inr fun j hj => absurd hj (Nat.not_lt_zero j)
    | succ k ih =>
      intro hk
      rcases ih (by omega) with h | h
      · exact .inl h
      · by_cases h1 : ((65536 * 2 ^ k : Nat) : Int) < n
        · refine .inr fun j hj => ?_
          by_cases e : j = k
          · subst e; exact h1
          · exact h j (by omega)
        · exact .inl ⟨_, k, by omega, rfl, h, .inl h1⟩
  rcases key 14 (Nat.le_refl _) with h | h
  · exact h
  · exact ⟨65536 * 2 ^ 14, 14, by omega, rfl, h, .inr (by decide)⟩
theorem may_one {n : Int} {p q : Nat} (h : MayS n p) (g : MayS n q) : p = q := by
  obtain ⟨k, hk, hp, hj, hs⟩ := h
  obtain ⟨k', hk', hp', hj', hs'⟩ := g
  have b1 : 1073741824 ≤ p → k = 14 := fun h => by
    rcases Nat.lt_or_ge k 14 with h1 | h1
    · have : (2 : Nat) ^ k ≤ 2 ^ 13 := Nat.pow_le_pow_right (by omega) (by omega)
      have e : (2 : Nat) ^ 13 = 8192 := by decide
      omega
    · omega
  have b2 : 1073741824 ≤ q → k' = 14 := fun h => by
    rcases Nat.lt_or_ge k' 14 with h1 | h1
    · have : (2 : Nat) ^ k' ≤ 2 ^ 13 := Nat.pow_le_pow_right (by omega) (by omega)
      have e : (2 : Nat) ^ 13 = 8192 := by decide
      omega
    · omega
  have e : k = k' := by
    rcases Nat.lt_trichotomy k k' with h1 | h1 | h1
    · have := hj' k h1
      rw [← hp] at this
      rcases hs with h2 | h2
      · omega
      · have := b1 h2; omega
    · exact h1
    · have := hj k' h1
      rw [← hp'] at this
      rcases hs' with h2 | h2
      · omega
      · have := b2 h2; omega
  rw [hp, hp', e]

/-! ## acts -/

structure Actn where
  kind : Int
  pos : Int
  num : Int
  L : List Nat
  A : Option Addr
  ca : Nat
  Bs : List Nat
  B : Option Addr
  cb : Nat
  c : Nat
def Actn.cells (x : Actn) : List Value := [.int .i64 x.kind, .int .i64 x.pos, .int .i64 x.num, .slice x.A x.L.length x.ca, .slice x.B x.Bs.length x.cb, .int .u8 (x.c : Int)]
def actCells (l : List Actn) : List Value := l.flatMap Actn.cells
theorem actCells_length : ∀ l : List Actn, (actCells l).length = l.length * 6
  | [] => rfl
  | x :: l => by
    have := actCells_length l
    simp [actCells, Actn.cells] at this ⊢
    omega
theorem actCells_get : ∀ (l : List Actn) (i j : Nat) (hi : i < l.length), j < 6 → (actCells l)[i * 6 + j]? = l[i].cells[j]?
  | x :: l, 0, j, _, hj => by
    show (x.cells ++ actCells l)[0 * 6 + j]? = x.cells[j]?
    rw [Nat.zero_mul, Nat.zero_add, List.getElem?_append_left (by simpa [Actn.cells] using hj)]
  | x :: l, i + 1, j, hi, hj => by
    have ih := actCells_get l i j (by simpa using hi) hj
    show (x.cells ++ actCells l)[(i + 1) * 6 + j]? = (l[i]'(by simpa using hi)).cells[j]?
    rw [List.getElem?_append_right (by simp [Actn.cells]; omega), ← ih]
    congr 1
    simp [Actn.cells]
    omega
/-- an act is read: its lists lie there, its numbers are in their ranges -/
def ActR (w : World) (x : Actn) : Prop := SlR w x.A (u64s x.L) ∧ SlR w x.B (u8s x.Bs) ∧ (∀ y ∈ x.L, y < 18446744073709551616) ∧ (∀ y ∈ x.Bs, y < 256) ∧ x.c < 256 ∧ (-9223372036854775808 ≤ x.pos ∧ x.pos ≤ 9223372036854775807 ∧ -9223372036854775808 ≤ x.num ∧ x.num ≤ 9223372036854775807) ∧ x.L.length ≤ 9223372036854775807 ∧ x.Bs.length ≤ 9223372036854775807
def ActsR (w : World) (A : Option Addr) (l : List Actn) : Prop := SlR w A (actCells l) ∧ (∀ x ∈ l, ActR w x) ∧ l.length ≤ 9223372036854775807
theorem ActR.below {w w' : World} {x : Actn} (h : ActR w x) (hb : Below w.heap.size w w') : ActR w' x := ⟨h.1.below hb, h.2.1.below hb, h.2.2⟩
theorem ActsR.below {w w' : World} {A : Option Addr} {l : List Actn} (h : ActsR w A l) (hb : Below w.heap.size w w') : ActsR w' A l := ⟨h.1.below hb, fun x hx => (h.2.1 x hx).below hb, h.2.2⟩
theorem ActsR.at {w : World} {A : Option Addr} {l : List Actn} (h : ActsR w A l) {i : Nat} (hi : i < l.length) :
    ∃ b off, A = some ⟨b, off, none⟩ ∧ b < w.heap.size ∧ w.cell? ⟨b, off + i * 6, none⟩ = some (.int .i64 l[i].kind) ∧ w.cell? ⟨b, off + i * 6 + 1, none⟩ = some (.int .i64 l[i].pos) ∧ w.cell? ⟨b, off + i * 6 + 2, none⟩ = some (.int .i64 l[i].num) ∧ w.cell? ⟨b, off + i * 6 + 3, none⟩ = some (.slice l[i].A l[i].L.length l[i].ca) ∧ w.cell? ⟨b, off + i * 6 + 4, none⟩ = some (.slice l[i].B l[i].Bs.length l[i].cb) ∧ w.cell? ⟨b, off + i * 6 + 5, none⟩ = some (.int .u8 (l[i].c : Int)) := by
  obtain ⟨b, off, e, hlt, hc⟩ := h.1 (fun e => by have := actCells_length l; rw [e] at this; simp at this; omega)
  have g : ∀ j v, j < 6 → l[i].cells[j]? = some v → w.cell? ⟨b, off + i * 6 + j, none⟩ = some v := fun j v hj hv => by
    have := hc (i * 6 + j) v (by rw [actCells_get l i j hi hj]; exact hv)
    rwa [← Nat.add_assoc] at this
  exact ⟨b, off, e, hlt, g 0 _ (by omega) rfl, g 1 _ (by omega) rfl, g 2 _ (by omega) rfl, g 3 _ (by omega) rfl, g 4 _ (by omega) rfl, g 5 _ (by omega) rfl⟩
def okA (x : Actn) : Bool := decide (x.L.length ≤ 100 ∧ x.Bs.length ≤ 1000)
def fewB (size : Int) (l : List Actn) : Bool := decide (l.length ≤ 60 ∧ ¬ (1048576 < size ∧ size ≤ 1073741824) ∧ ∀ (i : Fin l.length), okA l[i] = true)
theorem fewB_yes {size : Int} {l : List Actn} (h : fewB size l = true) : l.length ≤ 60 ∧ ¬ (1048576 < size ∧ size ≤ 1073741824) ∧ ∀ i (hi : i < l.length), l[i].L.length ≤ 100 ∧ l[i].Bs.length ≤ 1000 := by
  have := of_decide_eq_true h
  exact ⟨this.1, this.2.1, fun i hi => by simpa [okA] using this.2.2 ⟨i, hi⟩⟩
theorem fewB_mk {size : Int} {l : List Actn} (h1 : l.length ≤ 60) (h2 : ¬ (1048576 < size ∧ size ≤ 1073741824)) (h3 : ∀ i (hi : i < l.length), okA l[i] = true) : fewB size l = true := decide_eq_true ⟨h1, h2, fun i => h3 i.1 i.2⟩
theorem fewB_no1 {size : Int} {l : List Actn} (h : 60 < l.length) : fewB size l = false := decide_eq_false fun e => by omega
theorem fewB_no2 {size : Int} {l : List Actn} (h1 : 1048576 < size) (h2 : size ≤ 1073741824) : fewB size l = false := decide_eq_false fun e => by omega
theorem fewB_no3 {size : Int} {l : List Actn} {i : Nat} (hi : i < l.length) (h : 100 < l[i].L.length ∨ 1000 < l[i].Bs.length) : fewB size l = false := decide_eq_false fun e => by
  have := e.2.2 ⟨i, hi⟩
  simp [okA] at this
  omega

set_option maxHeartbeats 1600000 in
theorem few_any (size : Int) (l : List Actn) (A : Option Addr) (cap : Nat) (w : World) (hA : ActsR w A l) :
    Calls Try.prog 9 #[.int .i64 size, .slice A l.length cap] w fun e w' => e = .returned (.bool (fewB size l)) ∧ w' = w := by
  have HA := Lib.hid hA
  have hl := hA.2.2
  clear hA
  by_cases h1 : 60 < l.length
  · have F : Hid (fewB size l = false) := Lib.hid (fewB_no1 h1)
    go_enter Try.func9, Try.ntmps9
    go_wp2
    go_ret
    exact ⟨ret_bool F.out.symm, rfl⟩
  by_cases h2 : 1048576 < size ∧ size ≤ 1073741824
  · obtain ⟨h2, h3⟩ := h2
    have F : Hid (fewB size l = false) := Lib.hid (fewB_no2 h2 h3)
    have h1' : (l.length : Int) ≤ 60 := by omega
    clear h1
    go_enter Try.func9, Try.ntmps9
    go_wp2
    go_ret
    exact ⟨ret_bool F.out.symm, rfl⟩
  have H2 := Lib.hid h2
  have h1' : (l.length : Int) ≤ 60 := by omega
  have H1 := Lib.hid h1
  clear h1
  have key : ∀ (hd : (decide (1048576 < size) = true ∧ decide (size ≤ 1073741824) = false) ∨ decide (1048576 < size) = false), Calls Try.prog 9 #[.int .i64 size, .slice A l.length cap] w fun e w' => e = .returned (.bool (fewB size l)) ∧ w' = w := by
    clear h2
    intro hd
    obtain ⟨n, hn⟩ : ∃ n, l.length = n := ⟨_, rfl⟩
    rw [hn] at hl h1' ⊢
    have HN := Lib.hid hn
    clear hn
    rcases hd with ⟨hd, hd2⟩ | hd
    all_goals
      go_enter Try.func9, Try.ntmps9
      go_wp2_with fail
      go_loopw [5] (fun i wr => ∃ k : Nat, k ≤ n ∧ i = .int .i64 k ∧ (∀ j (hj : j < k) (hl : j < l.length), okA l[j] = true) ∧ wr = w) (fun i _ => n - (intOf i).toNat)
      case atStart => exact ⟨0, Nat.zero_le _, rfl, fun j hj => absurd hj (Nat.not_lt_zero j), rfl⟩
      case round =>
        obtain ⟨k, hk, rfl, hok, rfl⟩ := hrel
        have Hok := Lib.hid hok
        clear hok
        by_cases hlt : k < n
        · have hltl : k < l.length := by rw [HN.out]; exact hlt
          obtain ⟨b, off, rfl, _, _, _, _, c3, c4, _⟩ := HA.out.at hltl
          have hz := HA.out.2.1 _ (List.getElem_mem hltl)
          obtain ⟨x, hx⟩ : ∃ x, l[k] = x := ⟨_, rfl⟩
          have z1 := hz.2.2.2.2.2.2.1
          have z2 := hz.2.2.2.2.2.2.2
          clear hz
          by_cases hb1 : 100 < l[k].L.length
          · have F : Hid (fewB size l = false) := Lib.hid (fewB_no3 hltl (.inl hb1))
            rw [hx] at c3 c4 hb1 z1 z2
            have HX := Lib.hid hx
            clear hx
            go_wp2
            go_ret
            exact ⟨ret_bool F.out.symm, rfl⟩
          · by_cases hb2 : 1000 < l[k].Bs.length
            · have F : Hid (fewB size l = false) := Lib.hid (fewB_no3 hltl (.inr hb2))
              rw [hx] at c3 c4 hb1 hb2 z1 z2
              have hb1' : (x.L.length : Int) ≤ 100 := by omega
              have HX := Lib.hid hx
              clear hx hb1
              go_wp2
              go_ret
              exact ⟨ret_bool F.out.symm, rfl⟩
            · have O : Hid (okA l[k] = true) := Lib.hid (by simp [okA]; omega)
              rw [hx] at c3 c4 hb1 hb2 z1 z2
              have hb1' : (x.L.length : Int) ≤ 100 := by omega
              have hb2' : (x.Bs.length : Int) ≤ 1000 := by omega
              have HX := Lib.hid hx
              clear hx hb1 hb2
              go_wp2
              go_roundw
              case rel =>
                refine ⟨k + 1, by omega, by go_num, fun j hj hl => ?_, by first | rfl | trivial⟩
                by_cases e : j = k
                · subst e
                  exact O.out
                · exact Hok.out j (by omega) hl
              case measure => simp [intOf]; omega
        · have F : Hid (fewB size l = true) := Lib.hid (fewB_mk (by have := HN.out; omega) H2.out (fun i hi => Hok.out i (by have := HN.out; omega) hi))
          go_wp2
          go_ret
          exact ⟨ret_bool F.out.symm, rfl⟩
  refine key ?_
  by_cases h3 : 1048576 < size
  · exact .inl ⟨decide_eq_true h3, decide_eq_false (by omega)⟩
  · exact .inr (decide_eq_false h3)
end Go.Proofs.Ytcbaedknajeofaa
