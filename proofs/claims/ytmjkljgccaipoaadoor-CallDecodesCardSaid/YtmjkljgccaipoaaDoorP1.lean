/- Plain law of calls and their words: what a call's words are, how a call is told of words, and that each undoes the other. No condition. -/
import Derived.Test.YtmjkljgccaipoaaDoorA0
namespace Go.Proofs.YtmjkljgccaipoaaDoor
open Go.RowKit

/-! ## calls -/

structure Cal where
  op : Int
  slot : Int
  a : Int
  b : Int
  c : Int
  flag : Bool
  x : Nat
  words : List Nat
  items : List Itm

def zeroC : Cal := ⟨0, 0, 0, 0, 0, false, 0, [], []⟩
def mayC (c : Cal) : Bool :=
  c.items.all mayI && decide (1 ≤ c.op ∧ c.op ≤ 18 ∧ 0 ≤ c.slot ∧ c.slot ≤ 255 ∧ c.words.length ≤ 8 ∧ c.items.length ≤ 2 ∧ 0 ≤ c.a ∧ c.a ≤ 255 ∧ 0 ≤ c.b ∧ c.b ≤ 255 ∧ 0 ≤ c.c ∧ c.c ≤ 1048576)
def headC (c : Cal) : Nat :=
  c.slot.toNat + 256 * c.op.toNat + 65536 * c.words.length + 1048576 * c.items.length + (if c.flag then 4194304 else 0) + 16777216 * c.a.toNat + 4294967296 * c.b.toNat + 1099511627776 * c.c.toNat
def encC (c : Cal) : List Nat := if mayC c then headC c :: c.x :: (c.words ++ c.items.map codeI) else []

/-- the call that words seem to be -/
def seemC (x0 x1 : Nat) (rest : List Nat) : Cal :=
  { op := ((x0 / 256 % 256 : Nat) : Int), slot := ((x0 % 256 : Nat) : Int), a := ((x0 / 16777216 % 256 : Nat) : Int), b := ((x0 / 4294967296 % 256 : Nat) : Int), c := ((x0 / 1099511627776 % 2097152 : Nat) : Int),
    flag := decide (x0 / 4194304 % 2 = 1), x := x1, words := rest.take (x0 / 65536 % 16), items := (rest.drop (x0 / 65536 % 16)).map itemOf }
def decOk (x0 x1 : Nat) (rest : List Nat) : Bool :=
  decide (rest.length = x0 / 65536 % 16 + x0 / 1048576 % 4) && (rest.drop (x0 / 65536 % 16)).all itemOk && mayC (seemC x0 x1 rest) && decide (headC (seemC x0 x1 rest) = x0)
def decC : List Nat → Option Cal
  | x0 :: x1 :: rest => if decOk x0 x1 rest then some (seemC x0 x1 rest) else none
  | _ => none

theorem mayC_iff (c : Cal) : mayC c = true ↔ (∀ i ∈ c.items, mayI i = true) ∧ (1 ≤ c.op ∧ c.op ≤ 18 ∧ 0 ≤ c.slot ∧ c.slot ≤ 255 ∧ c.words.length ≤ 8 ∧ c.items.length ≤ 2 ∧ 0 ≤ c.a ∧ c.a ≤ 255 ∧ 0 ≤ c.b ∧ c.b ≤ 255 ∧ 0 ≤ c.c ∧ c.c ≤ 1048576) := by
  simp [mayC]

theorem headC_lt (c : Cal) (h : mayC c = true) : headC c < 2305843009213693952 ∧ headC c / 8388608 % 2 = 0 := by
  rw [mayC_iff] at h
  unfold headC
  split <;> omega

theorem headC_parts (c : Cal) (h : mayC c = true) : headC c / 65536 % 16 = c.words.length ∧ headC c / 1048576 % 4 = c.items.length ∧ ((headC c / 256 % 256 : Nat) : Int) = c.op ∧ ((headC c % 256 : Nat) : Int) = c.slot ∧
    ((headC c / 16777216 % 256 : Nat) : Int) = c.a ∧ ((headC c / 4294967296 % 256 : Nat) : Int) = c.b ∧ ((headC c / 1099511627776 % 2097152 : Nat) : Int) = c.c ∧ decide (headC c / 4194304 % 2 = 1) = c.flag := by
  rw [mayC_iff] at h
  obtain ⟨_, h⟩ := h
  cases hf : c.flag <;> simp only [headC, hf] <;> refine ⟨?_, ?_, ?_, ?_, ?_, ?_, ?_, ?_⟩ <;> simp <;> omega

theorem map_itemOf_codeI (l : List Itm) (h : ∀ i ∈ l, mayI i = true) : (l.map codeI).map itemOf = l := by
  induction l with
  | nil => rfl
  | cons i l ih => simp only [List.map_cons, itemOf_codeI i (h i (by simp)), ih (fun j hj => h j (by simp [hj]))]

/-- a call that may be is told of its words -/
theorem decC_encC (c : Cal) (h : mayC c = true) : decC (encC c) = some c := by
  obtain ⟨p1, p2, p3, p4, p5, p6, p7, p8⟩ := headC_parts c h
  have hi := ((mayC_iff c).1 h).1
  have hs : seemC (headC c) c.x (c.words ++ c.items.map codeI) = c := by
    unfold seemC
    rw [p1, p3, p4, p5, p6, p7, p8, List.take_left, List.drop_left, map_itemOf_codeI _ hi]
  have hk : decOk (headC c) c.x (c.words ++ c.items.map codeI) = true := by
    unfold decOk
    rw [hs, p1, p2, List.drop_left, h]
    simp only [List.length_append, List.length_map, decide_true, Bool.true_and, Bool.and_true, List.all_eq_true, List.mem_map]
    rintro x ⟨i, hm, rfl⟩
    exact itemOk_codeI i (hi i hm)
  simp only [encC, h, if_true, decC, hk, hs]

theorem map_codeI_itemOf (l : List Nat) (h : l.all itemOk = true) : (l.map itemOf).map codeI = l := by
  induction l with
  | nil => rfl
  | cons x l ih =>
    simp only [List.all_cons, Bool.and_eq_true, itemOk, decide_eq_true_eq] at h
    simp only [List.map_cons, h.1.2, ih h.2]

/-- words that a call is told of are its words, and the call may be -/
theorem encC_decC (w : List Nat) (c : Cal) (h : decC w = some c) : mayC c = true ∧ encC c = w := by
  match w, h with
  | x0 :: x1 :: rest, h =>
    simp only [decC] at h
    by_cases hk : decOk x0 x1 rest = true
    · rw [if_pos hk] at h
      cases h
      simp only [decOk, Bool.and_eq_true, decide_eq_true_eq] at hk
      obtain ⟨⟨⟨h1, h2⟩, h3⟩, h4⟩ := hk
      refine ⟨h3, ?_⟩
      simp only [encC, h3, if_true, h4]
      simp only [seemC, map_codeI_itemOf _ h2, List.take_append_drop]
    · rw [if_neg hk] at h; cases h

theorem encC_length (c : Cal) (h : mayC c = true) : (encC c).length = 2 + c.words.length + c.items.length := by
  simp only [encC, h, if_true, List.length_cons, List.length_append, List.length_map]; omega

/-- words with the same first word, told of calls, are of one length -/
theorem decC_cut (x0 : Nat) (v w : List Nat) (c d : Cal) (hv : decC (x0 :: v) = some c) (hw : decC (x0 :: w) = some d) : v.length = w.length := by
  obtain ⟨m1, e1⟩ := encC_decC _ _ hv
  obtain ⟨m2, e2⟩ := encC_decC _ _ hw
  have l1 := encC_length c m1
  have l2 := encC_length d m2
  have p1 := headC_parts c m1
  have p2 := headC_parts d m2
  have q1 : headC c = x0 := by simp only [encC, m1, if_true, List.cons.injEq] at e1; exact e1.1
  have q2 : headC d = x0 := by simp only [encC, m2, if_true, List.cons.injEq] at e2; exact e2.1
  rw [e1] at l1; rw [e2] at l2
  rw [q1] at p1; rw [q2] at p2
  simp only [List.length_cons] at l1 l2
  omega

theorem encC_apart (a b : Cal) (ha : mayC a = true) (hb : mayC b = true) (h : encC a = encC b) : a = b := by
  have h1 := decC_encC a ha
  rw [h, decC_encC b hb] at h1
  exact (Option.some.inj h1).symm

end Go.Proofs.YtmjkljgccaipoaaDoor
