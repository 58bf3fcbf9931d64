/- Plain laws of a block's 32 words: messages put and got, windows, words out of bytes; no program in sight. No condition. -/
import Derived.Test.YtgacfgofpanchaaG5
namespace Go.Proofs.Ytgacfgofpanchaa
open Go.RowKit

/-! ## words out of bytes -/

/-- the word i of the block that stands at p -/
def wd (f : Nat → Nat) (p i : Nat) : Nat := sumB f (p + 8 * i) 8
theorem wd_lt (f : Nat → Nat) (p i : Nat) (hf : ∀ j, f j < 256) : wd f p i < 18446744073709551616 := by
  have := sumB_lt f (p + 8 * i) hf 8
  have e : (256 : Nat) ^ 8 = 18446744073709551616 := by decide
  rw [e] at this
  exact this
theorem sum_store (f : Nat → Nat) (a i n : Nat) (l : List Nat) (hi : i < l.length) (hn : n = l.length * 8) (hx : l[i] < 18446744073709551616) : sumB (storeF f a l n) (a + 8 * i) 8 = l[i] := by
  rw [sumB_word _ _ l[i] (fun j hj => ?_) 8 (by omega)]
  · exact Nat.mod_eq_of_lt (by have e : (256 : Nat) ^ 8 = 18446744073709551616 := by decide
                               omega)
  · unfold storeF
    rw [if_pos (by omega), show (a + 8 * i + j - a) / 8 = i by omega, show (a + 8 * i + j - a) % 8 = j by omega]
    simp [List.getD, hi]
theorem sum_apart (f : Nat → Nat) (a n b : Nat) (l : List Nat) (h : b + 8 ≤ a ∨ a + n ≤ b) : sumB (storeF f a l n) b 8 = sumB f b 8 := by
  refine sumB_congr _ _ _ _ fun j hj => ?_
  unfold storeF
  rw [if_neg (by omega)]
theorem storeF_out (f : Nat → Nat) (a n j : Nat) (l : List Nat) (h : j < a ∨ a + n ≤ j) : storeF f a l n j = f j := by
  unfold storeF
  rw [if_neg (by omega)]
theorem storeF_lt (f : Nat → Nat) (a n : Nat) (l : List Nat) (hf : ∀ i, f i < 256) (j : Nat) : storeF f a l n j < 256 := by
  unfold storeF
  split
  · exact Nat.mod_lt _ (by omega)
  · exact hf j

/-! ## messages and windows -/

structure Msg where
  label : Nat
  words : List Nat
  items : List Itm
structure Wnd where
  base : Int
  order : Int
def zeroM : Msg := ⟨0, [], []⟩
def zeroWd : Wnd := ⟨0, 0⟩
def getOk (g : Nat → Nat) : Bool := decide (g 0 % 16 ≤ 8 ∧ g 0 / 16 ≤ 2 ∧ ∀ j, j < g 0 / 16 → itemOk (g (11 + j)) = true)
def gotM (g : Nat → Nat) : Msg := ⟨g 1, (List.range (g 0 % 16)).map fun i => g (3 + i), (List.range (g 0 / 16)).map fun j => itemOf (g (11 + j))⟩
def getM (g : Nat → Nat) : Msg := if getOk g then gotM g else zeroM
def putOk (m : Msg) : Bool := decide (m.words.length ≤ 8 ∧ m.items.length ≤ 2) && m.items.all mayI
/-- the words of a message, and of its items, as they stand -/
def ten (ws : List Nat) (cs : List Nat) : List Nat := (List.range 10).map fun j => if j < 8 then ws.getD j 0 else cs.getD (j - 8) 0
def putG (m : Msg) (g : Nat → Nat) (i : Nat) : Nat := if i = 0 then m.words.length + 16 * m.items.length else if i = 1 then m.label else if 3 ≤ i ∧ i < 13 then (ten m.words (m.items.map codeI)).getD (i - 3) 0 else g i
def winOk (w : Wnd) : Bool := alignedB w.base w.order
def openG (w : Wnd) (g : Nat → Nat) (i : Nat) : Nat := if i = 2 then w.base.toNat + 256 * w.order.toNat else g i
def winAt (x : Nat) : Wnd := ⟨((x % 256 : Nat) : Int), ((x / 256 : Nat) : Int)⟩
def winX (x : Nat) : Wnd := if x < 4096 ∧ winOk (winAt x) = true then winAt x else zeroWd
def winG (g : Nat → Nat) : Wnd := winX (g 2)

theorem putOk_iff (m : Msg) : putOk m = true ↔ m.words.length ≤ 8 ∧ m.items.length ≤ 2 ∧ ∀ i ∈ m.items, mayI i = true := by
  simp [putOk, and_assoc]
theorem ten_length (ws cs : List Nat) : (ten ws cs).length = 10 := by simp [ten]
theorem ten_lo (ws cs : List Nat) (j : Nat) (h : j < 8) : (ten ws cs).getD j 0 = ws.getD j 0 := by
  simp [ten, List.getD, show j < 10 by omega, h]
theorem ten_hi (ws cs : List Nat) (j : Nat) (h : j < 2) : (ten ws cs).getD (8 + j) 0 = cs.getD j 0 := by
  simp [ten, List.getD, show 8 + j < 10 by omega, show ¬ (8 + j < 8) by omega]
theorem putG_two (m : Msg) (g : Nat → Nat) : putG m g 2 = g 2 := by simp [putG]
theorem putG_out (m : Msg) (g : Nat → Nat) (i : Nat) (h : 13 ≤ i) : putG m g i = g i := by
  unfold putG
  rw [if_neg (by omega), if_neg (by omega), if_neg (by omega)]
theorem putG_word (m : Msg) (g : Nat → Nat) (i : Nat) (h : i < 8) : putG m g (3 + i) = m.words.getD i 0 := by
  unfold putG
  rw [if_neg (by omega), if_neg (by omega), if_pos (by omega), show 3 + i - 3 = i by omega, ten_lo _ _ _ h]
theorem putG_item (m : Msg) (g : Nat → Nat) (i : Nat) (h : i < 2) : putG m g (11 + i) = (m.items.map codeI).getD i 0 := by
  unfold putG
  rw [if_neg (by omega), if_neg (by omega), if_pos (by omega), show 11 + i - 3 = 8 + i by omega, ten_hi _ _ _ h]
theorem getD_lt {l : List Nat} {i : Nat} (h : i < l.length) : l.getD i 0 = l[i] := by simp [List.getD, h]
theorem getM_putG (m : Msg) (g : Nat → Nat) (h : putOk m = true) : getM (putG m g) = m := by
  obtain ⟨h1, h2, h3⟩ := (putOk_iff m).1 h
  have e0 : putG m g 0 = m.words.length + 16 * m.items.length := rfl
  have e1 : putG m g 1 = m.label := rfl
  have n1 : putG m g 0 % 16 = m.words.length := by rw [e0]; omega
  have n2 : putG m g 0 / 16 = m.items.length := by rw [e0]; omega
  have it : ∀ j (hj : j < m.items.length), putG m g (11 + j) = codeI m.items[j] := fun j hj => by
    rw [putG_item m g j (by omega), getD_lt (by simpa using hj)]
    simp
  have ok : getOk (putG m g) = true := by
    unfold getOk
    rw [n1, n2]
    refine decide_eq_true ⟨h1, h2, fun j hj => ?_⟩
    rw [it j hj]
    exact itemOk_codeI _ (h3 _ (List.getElem_mem hj))
  unfold getM
  rw [if_pos ok]
  obtain ⟨lb, ws, is⟩ := m
  simp only [gotM, n1, n2, e1, Msg.mk.injEq, true_and]
  refine ⟨?_, ?_⟩
  · apply List.ext_getElem
    · simp
    · intro i q1 q2
      simp at q1
      simp only [List.getElem_map, List.getElem_range]
      rw [putG_word _ _ i (by simp at h1; omega), getD_lt (by simpa using q2)]
  · apply List.ext_getElem
    · simp
    · intro i q1 q2
      simp only [List.getElem_map, List.getElem_range]
      rw [it i (by simpa using q2)]
      exact itemOf_codeI _ (h3 _ (List.getElem_mem _))
theorem getM_congr {g h : Nat → Nat} (e : ∀ i, i < 13 → i ≠ 2 → g i = h i) : getM g = getM h := by
  have e0 := e 0 (by omega) (by omega)
  have e1 := e 1 (by omega) (by omega)
  have k : getOk g = getOk h := by
    unfold getOk
    rw [← e0]
    refine decide_eq_decide.2 ⟨fun q => ⟨q.1, q.2.1, fun j hj => ?_⟩, fun q => ⟨q.1, q.2.1, fun j hj => ?_⟩⟩
    · rw [← e (11 + j) (by omega) (by omega)]; exact q.2.2 j hj
    · rw [e (11 + j) (by omega) (by omega)]; exact q.2.2 j hj
  unfold getM
  rw [← k]
  by_cases ok : getOk g = true
  · rw [if_pos ok, if_pos ok]
    have q := of_decide_eq_true ok
    unfold gotM
    rw [← e0, ← e1]
    congr 1
    · refine List.map_congr_left fun i hi => e _ ?_ (by omega)
      simp at hi
      omega
    · refine List.map_congr_left fun i hi => ?_
      simp at hi
      rw [e (11 + i) (by omega) (by omega)]
  · rw [if_neg ok, if_neg ok]
theorem getM_openG (w : Wnd) (g : Nat → Nat) : getM (openG w g) = getM g := getM_congr fun i _ h => by simp [openG, h]
theorem winG_putG (m : Msg) (g : Nat → Nat) : winG (putG m g) = winG g := by simp [winG, putG_two]
theorem winOk_iff (w : Wnd) : winOk w = true ↔ 0 ≤ w.base ∧ w.base < 256 ∧ 0 ≤ w.order ∧ w.order ≤ 7 ∧ w.base % 2 ^ w.order.toNat = 0 := by simp [winOk, alignedB]
theorem winX_word (w : Wnd) (h : winOk w = true) : winX (w.base.toNat + 256 * w.order.toNat) = w := by
  obtain ⟨h1, h2, h3, h4, h5⟩ := (winOk_iff w).1 h
  have e : winAt (w.base.toNat + 256 * w.order.toNat) = w := by
    obtain ⟨b, o⟩ := w
    simp only [winAt, Wnd.mk.injEq]
    simp only at h1 h2 h3 h4
    omega
  unfold winX
  rw [e, if_pos ⟨by omega, h⟩]
theorem winG_openG (w : Wnd) (g : Nat → Nat) (h : winOk w = true) : winG (openG w g) = w := winX_word w h
theorem winX_may (x : Nat) : winOk (winX x) = true := by
  unfold winX
  split
  · rename_i h; exact h.2
  · decide
theorem winG_may (g : Nat → Nat) : winOk (winG g) = true := winX_may _
theorem putOk_getM (g : Nat → Nat) : putOk (getM g) = true := by
  unfold getM
  by_cases ok : getOk g = true
  · rw [if_pos ok]
    have q := of_decide_eq_true ok
    refine (putOk_iff _).2 ⟨by simpa [gotM] using q.1, by simpa [gotM] using q.2.1, fun i hi => ?_⟩
    simp only [gotM, List.mem_map, List.mem_range] at hi
    obtain ⟨j, hj, rfl⟩ := hi
    exact ((itemOk_iff _).1 (q.2.2 j hj)).1
  · rw [if_neg ok]; decide
theorem putOk_words (m : Msg) (lb : Nat) (h : m.words.length ≤ 8) : putOk ⟨lb, m.words, []⟩ = true := (putOk_iff _).2 ⟨h, by simp, by simp⟩
theorem getM_words_le (g : Nat → Nat) : (getM g).words.length ≤ 8 ∧ (getM g).items.length ≤ 2 := by
  have := (putOk_iff _).1 (putOk_getM g)
  exact ⟨this.1, this.2.1⟩
theorem getM_lt (g : Nat → Nat) (hg : ∀ i, g i < 18446744073709551616) : (getM g).label < 18446744073709551616 ∧ ∀ x ∈ (getM g).words, x < 18446744073709551616 := by
  unfold getM
  split
  · refine ⟨hg _, fun x hx => ?_⟩
    simp only [gotM, List.mem_map] at hx
    obtain ⟨j, _, rfl⟩ := hx
    exact hg _
  · exact ⟨by decide, fun x hx => by cases hx⟩
end Go.Proofs.Ytgacfgofpanchaa
