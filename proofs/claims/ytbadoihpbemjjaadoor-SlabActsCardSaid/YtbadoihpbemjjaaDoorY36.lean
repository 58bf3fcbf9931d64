/- The reference's lists of places: has, Same, cut, May, Many. Condition: the lists are read. -/
import Derived.Test.YtbadoihpbemjjaaDoorY16
/- The reference's lists of places: has, Same, cut, May, Many. Condition: the lists are read. -/
namespace Go.Proofs.YtbadoihpbemjjaaDoor
open Go.RowKit Go.Maps

set_option maxRecDepth 100000 in
theorem has_r (L : List Int) (m : Nat) (hm : m = L.length) (hl : m ≤ 1073741824) (A : Option Addr) (ca : Nat) (x : Int) (r : Bool) (hr : r = true ↔ x ∈ L) (w : World) (hA : SlR w A (i64s L)) :
    Calls Tryd.prog 45 #[.slice A m ca, .int .i64 x] w fun e w' => e = .returned (.bool r) ∧ w' = w := by
  have HA := Lib.hid hA
  have HM := Lib.hid hm
  have HR := Lib.hid hr
  have HL := Lib.hid hl
  clear hA hm hr hl
  go_enter Tryd.func45, Tryd.ntmps45
  go_wp2
  go_loopw [5] (fun i wr => wr = w ∧ ∃ k : Nat, k ≤ m ∧ i = .int .i64 k ∧ ∀ j (h : j < L.length), j < k → L[j] ≠ x) (fun i _ => m - (intOf i).toNat)
  case atStart => exact ⟨rfl, 0, Nat.zero_le _, rfl, fun j h h2 => absurd h2 (Nat.not_lt_zero _)⟩
  case round =>
    obtain ⟨rfl, k, hk, rfl, hn⟩ := hrel
    have HN := Lib.hid hn
    by_cases hlt : k < m
    · have hkl : k < L.length := by rw [← HM.out]; exact hlt
      obtain ⟨b, off, rfl, hc⟩ := HA.out.int hkl
      obtain ⟨y, hy⟩ : ∃ y, L[k] = y := ⟨_, rfl⟩
      rw [hy] at hc
      have i0 : (0 : Int) ≤ (k : Int) := by omega
      have i1 : (k : Int) < (m : Int) := by omega
      have zk : IntKind.i64.wrap ((k : Int) + 1) = (k : Int) + 1 := by rw [IntKind.wrap_i64]; have := HL.out; omega
      by_cases q : y = x
      · have t1 : (y == x) = true := by simp [q]
        have hrt : r = true := HR.out.2 (by rw [← q, ← hy]; exact List.getElem_mem hkl)
        clear hn hy q hkl HR
        subst hrt
        go_wp2
        go_ret
        exact ⟨rfl, rfl⟩
      · have t1 : (y == x) = false := by simp [q]
        have HN2 : Hid (∀ j (h : j < L.length), j < k + 1 → L[j] ≠ x) := Lib.hid (fun j h h2 => by
          by_cases e : j = k
          · subst e; rw [hy]; exact q
          · exact HN.out j h (by omega))
        clear hn hy q hkl
        go_wp2
        go_roundw
        case rel => exact ⟨by first | rfl | trivial, k + 1, by omega, by go_num, HN2.out⟩
        case measure => (try simp [intOf]) <;> omega
    · have i1 : ¬ ((k : Int) < (m : Int)) := by omega
      have hrf : r = false := Bool.eq_false_iff.2 fun h => by
        obtain ⟨j, hj, e⟩ := List.getElem_of_mem (HR.out.1 h)
        exact HN.out j hj (by have := HM.out; omega) e
      clear hn HR
      subst hrf
      go_wp2
      go_ret
      exact ⟨rfl, rfl⟩
set_option maxRecDepth 100000 in
theorem same_i (L : List Int) (m : Nat) (hm : m = L.length) (hl : m ≤ 1073741824) (A B : Option Addr) (ca cb : Nat) (w : World) (hA : SlR w A (i64s L)) (hB : SlR w B (i64s L)) :
    Calls Tryd.prog 26 #[.slice A m ca, .slice B m cb] w fun e w' => e = .returned (.bool true) ∧ Below w.heap.size w w' := by
  have HA := Lib.hid hA
  have HB := Lib.hid hB
  have HM := Lib.hid hm
  have HL := Lib.hid hl
  clear hA hB hm hl
  go_enter Tryd.func26, Tryd.ntmps26
  go_wp2_with fail
  go_loopw [5] (fun i wr => ∃ k : Nat, k ≤ m ∧ i = .int .i64 k ∧ Below w.heap.size w wr) (fun i _ => m - (intOf i).toNat)
  case atStart => exact ⟨0, Nat.zero_le _, rfl, Below.refl _ _⟩
  case round =>
    obtain ⟨k, hk, rfl, hwr⟩ := hrel
    have Hwr := Lib.hid hwr
    by_cases hlt : k < m
    · have hkl : k < L.length := by rw [← HM.out]; exact hlt
      obtain ⟨b, off, rfl, q1⟩ := (HA.out.below hwr).int hkl
      obtain ⟨b2, off2, rfl, q3⟩ := (HB.out.below hwr).int hkl
      obtain ⟨x, hx⟩ : ∃ x : Int, L[k] = x := ⟨_, rfl⟩
      rw [hx] at q1 q3
      have rn : (x != x) = false := by simp
      have i1 : (0 : Int) ≤ (k : Int) := Int.natCast_nonneg _
      have i2 : (k : Int) < (m : Int) := by omega
      have zk : IntKind.i64.wrap ((k : Int) + 1) = (k : Int) + 1 := by rw [IntKind.wrap_i64]; have := HL.out; omega
      clear hwr hx hkl
      go_wp2_with fail
      go_quiet (fail)
      go_wp2
      go_roundw
      case rel => exact ⟨k + 1, by omega, by go_num, below_drewN Hwr.out nq⟩
      case measure => (try simp [intOf]) <;> omega
    · have q : ¬ ((k : Int) < (m : Int)) := by omega
      clear hwr
      go_wp2
      go_ret
      exact ⟨rfl, Hwr.out⟩
def cutL (L : List Int) (x : Int) : List Int := L.filter fun y => decide (y ≠ x)
set_option maxRecDepth 100000 in
set_option maxHeartbeats 1600000 in
theorem cut_i (L : List Int) (m : Nat) (hm : m = L.length) (hl : m ≤ 62914560) (A : Option Addr) (ca : Nat) (x : Int) (w : World) (hA : SlR w A (i64s L)) :
    Calls Tryd.prog 47 #[.slice A m ca, .int .i64 x] w fun e w' => ∃ A' m' k', e = .returned (.slice A' m' k') ∧ m' = (cutL L x).length ∧ w'.ownsRow w.heap.size 3 1 (.slice A' m' k') m' (i64s (cutL L x)) ∧ Below w.heap.size w w' := by
  obtain ⟨i0, hi0, hz0, hz1, hz2⟩ := info_parts info_int
  have HA := Lib.hid hA
  have HM := Lib.hid hm
  have HL := Lib.hid hl
  clear hA hm hl
  go_enter Tryd.func47, Tryd.ntmps47
  go_wp2
  go_loopw [5, 6] (fun s i wr => ∃ (k m1 : Nat) (A1 : Option Addr) (k1 : Nat), k ≤ m ∧ i = .int .i64 (k : Int) ∧ s = .slice A1 m1 k1 ∧ m1 = (cutL (L.take k) x).length ∧ wr.ownsRow w.heap.size 3 1 (.slice A1 m1 k1) m1 (i64s (cutL (L.take k) x)) ∧ Below w.heap.size w wr) (fun _ i _ => m - (intOf i).toNat)
  case atStart => exact ⟨0, 0, none, 0, Nat.zero_le _, rfl, rfl, rfl, World.ownsRow_nil _ _ _ _, Below.refl _ _⟩
  case round =>
    obtain ⟨k, m1, A1, k1, hk, rfl, rfl, hm1, ho, hwr⟩ := hrel
    have HO := Lib.hid ho
    have HWR := Lib.hid hwr
    have HM1 := Lib.hid hm1
    by_cases hlt : k < m
    · have hkl : k < L.length := by rw [← HM.out]; exact hlt
      obtain ⟨b, off, rfl, q1⟩ := (HA.out.below hwr).int hkl
      obtain ⟨y, hy⟩ : ∃ y : Int, L[k] = y := ⟨_, rfl⟩
      rw [hy] at q1
      have hle : m1 ≤ k := by
        rw [hm1]
        refine Nat.le_trans (List.length_filter_le _ _) ?_
        rw [List.length_take]; omega
      have HLE := Lib.hid hle
      have htk : L.take (k + 1) = L.take k ++ [y] := by rw [List.take_add_one, List.getElem?_eq_getElem hkl, hy]; rfl
      have i1 : (0 : Int) ≤ (k : Int) := Int.natCast_nonneg _
      have i2 : (k : Int) < (m : Int) := by omega
      have zk : IntKind.i64.wrap ((k : Int) + 1) = (k : Int) + 1 := by rw [IntKind.wrap_i64]; have := HL.out; omega
      by_cases q : y = x
      · have t1 : (y != x) = false := by simp [q]
        have HC : Hid (cutL (L.take (k + 1)) x = cutL (L.take k) x) := Lib.hid (by rw [htk]; simp [cutL, q])
        clear hwr hy hkl q htk hle ho hm1
        go_wp2
        go_roundw
        case rel => exact ⟨k + 1, m1, A1, k1, by omega, by go_num, rfl, by rw [HC.out]; exact HM1.out, by rw [HC.out]; exact HO.out, HWR.out⟩
        case measure => (try simp [intOf]) <;> omega
      · have t1 : (y != x) = true := by simp [q]
        have HC : Hid (cutL (L.take (k + 1)) x = cutL (L.take k) x ++ [y]) := Lib.hid (by rw [htk]; simp [cutL, q])
        have HCI : Hid (i64s (cutL (L.take k) x) ++ i64s [y] = i64s (cutL (L.take (k + 1)) x)) := Lib.hid (by rw [HC.out, i64s, i64s, i64s, List.map_append])
        have HOA := Lib.hid (ownsRow_below ho ((Below.refl _ wr).alloc (Nat.le_refl _) (.cells #[.int .i64 y] 3)))
        have HBA : Hid (w.heap.size ≤ (wr.alloc (.cells #[.int .i64 y] 3)).heap.size) := Lib.hid (by rw [World.size_alloc]; have := hwr.size; omega)
        clear hwr hy hkl q htk hle ho hm1
        go_wp2_with (first | (at_builtin; refine wpList_app _ rfl (.tmp 19) (.tmp 24) 30 rfl w.heap.size 3 i0 _ 1 8 Tryd.underlying30 hi0 hz0 hz1 hz2 rfl (by omega) A1 m1 k1 _ rfl HOA.out (some ⟨wr.heap.size, 0, none⟩) 1 1 (i64s [y]) rfl (by rfl) (SlR_new _ _ _) (i64s_one _) (by have := HL.out; have := HLE.out; unfold maxLen; omega) (by have := HL.out; have := HLE.out; omega) HBA.out ?_; intro A8 k8 w8 hown8 hg8 hb8))
        rw [HCI.out] at hown8
        have HO8 := Lib.hid hown8
        have HB8 := Lib.hid ((HWR.out.alloc HWR.out.size _).trans hb8)
        clear hown8 hg8 hb8
        go_wp2
        go_roundw
        case rel => exact ⟨k + 1, m1 + 1, A8, k8, by omega, by go_num, rfl, by rw [HC.out, List.length_append, ← HM1.out]; rfl, HO8.out, HB8.out⟩
        case measure => (try simp [intOf]) <;> omega
    · have q : ¬ ((k : Int) < (m : Int)) := by omega
      have e : L.take k = L := List.take_of_length_le (by have := HM.out; omega)
      rw [e] at HO HM1
      clear hwr ho hm1 e
      go_wp2
      go_ret
      exact ⟨A1, m1, k1, rfl, HM1.out, HO.out, HWR.out⟩
end Go.Proofs.YtbadoihpbemjjaaDoor
