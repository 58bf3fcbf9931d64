/- The reference's table: its row; Get, Slots, Leaves. Condition: its row is read. And what follows from it. -/
import Derived.Test.YtflkoabgkgegjaaGreatDoorY38
import Derived.Test.YtflkoabgkgegjaaGreatDoorY35
import Derived.StillTailTactics
/- The reference's table: its row; Get, Slots, Leaves. Condition: its row is read. -/
namespace Go.Proofs.YtflkoabgkgegjaaGreatDoor
open Go.RowKit Go.Maps

/-- the reference's table: its pool, where its leaves are, its entries -/
def RT9 (w : World) (tp rp : Nat) (lf A B : Nat → Nat) : Prop := ∃ cs : Array Value, w.heap[tp]? = some (.cells cs 48 (0, 0)) ∧ cs.size = 530 ∧ cs[0]? = some (.pointer (some ⟨rp, 0, none⟩)) ∧ cs[1]? = some (.int .i64 0) ∧
  (∀ j, j < 16 → cs[2 + j]? = some (.int .i64 ((lf j : Nat) : Int))) ∧ (∀ i, i < 256 → cs[18 + i]? = some (.int .u64 ((A i : Nat) : Int))) ∧ ∀ i, i < 256 → cs[274 + i]? = some (.int .u64 ((B i : Nat) : Int))
section
variable {w w' : World} {tp rp : Nat} {lf A B : Nat → Nat}
theorem r9_off : OffP 48 := ⟨⟨by decide, by decide, by decide⟩, by decide, by decide⟩
theorem RT9.obj (h : RT9 w tp rp lf A B) : ∃ cs, w.heap[tp]? = some (.cells cs 48 (0, 0)) := by
  obtain ⟨cs, h1, _⟩ := h
  exact ⟨cs, h1⟩
theorem RT9.of {w' : World} (h : RT9 w tp rp lf A B) (hk : ∀ cs, w.heap[tp]? = some (.cells cs 48 (0, 0)) → w'.heap[tp]? = some (.cells cs 48 (0, 0))) : RT9 w' tp rp lf A B := by
  obtain ⟨cs, h1, h2⟩ := h
  exact ⟨cs, hk _ h1, h2⟩
theorem RT9.below (h : RT9 w tp rp lf A B) (hb : Below w.heap.size w w') : RT9 w' tp rp lf A B := h.of fun _ h1 => (hb.block _ (blt h1)).trans h1
theorem RT9.keep (h : RT9 w tp rp lf A B) (hk : KeepP w w') : RT9 w' tp rp lf A B := h.of fun _ h1 => hk _ _ _ h1 r9_off
theorem RT9.keepR (h : RT9 w tp rp lf A B) (hk : KeepR w w') : RT9 w' tp rp lf A B := h.of fun _ h1 => hk _ _ _ h1 (by decide) (by decide) (by decide)
theorem RT9.p0 (h : RT9 w tp rp lf A B) : w.cell? ⟨tp, 0, none⟩ = some (.pointer (some ⟨rp, 0, none⟩)) := by
  obtain ⟨cs, h1, h2, h3, h4, h5, h6, h7⟩ := h
  rw [cell_of_row _ _ _ _ _ _ h1, h3]
theorem RT9.p1 (h : RT9 w tp rp lf A B) : w.cell? ⟨tp, 1, none⟩ = some (.int .i64 0) := by
  obtain ⟨cs, h1, h2, h3, h4, h5, h6, h7⟩ := h
  rw [cell_of_row _ _ _ _ _ _ h1, h4]
theorem RT9.leaf (h : RT9 w tp rp lf A B) {j : Nat} (hj : j < 16) : w.cell? ⟨tp, 2 + j, none⟩ = some (.int .i64 ((lf j : Nat) : Int)) := by
  obtain ⟨cs, h1, h2, h3, h4, h5, h6, h7⟩ := h
  rw [cell_of_row _ _ _ _ _ _ h1, h5 j hj]
theorem RT9.a (h : RT9 w tp rp lf A B) {i : Nat} (hi : i < 256) : w.cell? ⟨tp, 18 + i, none⟩ = some (.int .u64 ((A i : Nat) : Int)) := by
  obtain ⟨cs, h1, h2, h3, h4, h5, h6, h7⟩ := h
  rw [cell_of_row _ _ _ _ _ _ h1, h6 i hi]
theorem RT9.b (h : RT9 w tp rp lf A B) {i : Nat} (hi : i < 256) : w.cell? ⟨tp, 274 + i, none⟩ = some (.int .u64 ((B i : Nat) : Int)) := by
  obtain ⟨cs, h1, h2, h3, h4, h5, h6, h7⟩ := h
  rw [cell_of_row _ _ _ _ _ _ h1, h7 i hi]
theorem RT9.froz (h : RT9 w tp rp lf A B) (i : Nat) : w.frozen? ⟨tp, i, none⟩ = false := by
  obtain ⟨cs, h1, h2⟩ := h
  exact frozen_of_row _ _ _ _ _ h1
theorem RT9.setL (h : RT9 w tp rp lf A B) {j : Nat} (hj : j < 16) (x : Nat) (X : Int) (hX : (x : Int) = X) : RT9 (w.setCell ⟨tp, 2 + j, none⟩ (.int .i64 X)) tp rp (updF lf j x) A B := by
  subst hX
  obtain ⟨cs, h1, h2, h3, h4, h5, h6, h7⟩ := h
  refine ⟨cs.setIfInBounds (2 + j) (.int .i64 (x : Int)), heap_setCell_same w tp (2 + j) _ _ _ h1, by simp [h2], ?_, ?_, fun i hi => ?_, fun i hi => ?_, fun i hi => ?_⟩
  · rw [Array.getElem?_setIfInBounds_ne (by omega)]; exact h3
  · rw [Array.getElem?_setIfInBounds_ne (by omega)]; exact h4
  · by_cases e : i = j
    · subst e
      rw [updF_same]
      simp [h2, show 2 + i < 530 by omega]
    · rw [updF_other _ _ e, Array.getElem?_setIfInBounds_ne (by omega)]
      exact h5 i hi
  · rw [Array.getElem?_setIfInBounds_ne (by omega)]; exact h6 i hi
  · rw [Array.getElem?_setIfInBounds_ne (by omega)]; exact h7 i hi
theorem RT9.setA (h : RT9 w tp rp lf A B) {j : Nat} (hj : j < 256) (x : Nat) (X : Int) (hX : (x : Int) = X) : RT9 (w.setCell ⟨tp, 18 + j, none⟩ (.int .u64 X)) tp rp lf (updF A j x) B := by
  subst hX
  obtain ⟨cs, h1, h2, h3, h4, h5, h6, h7⟩ := h
  refine ⟨cs.setIfInBounds (18 + j) (.int .u64 (x : Int)), heap_setCell_same w tp (18 + j) _ _ _ h1, by simp [h2], ?_, ?_, fun i hi => ?_, fun i hi => ?_, fun i hi => ?_⟩
  · rw [Array.getElem?_setIfInBounds_ne (by omega)]; exact h3
  · rw [Array.getElem?_setIfInBounds_ne (by omega)]; exact h4
  · rw [Array.getElem?_setIfInBounds_ne (by omega)]; exact h5 i hi
  · by_cases e : i = j
    · subst e
      rw [updF_same]
      simp [h2, show 18 + i < 530 by omega]
    · rw [updF_other _ _ e, Array.getElem?_setIfInBounds_ne (by omega)]
      exact h6 i hi
  · rw [Array.getElem?_setIfInBounds_ne (by omega)]; exact h7 i hi
theorem RT9.setB (h : RT9 w tp rp lf A B) {j : Nat} (hj : j < 256) (x : Nat) (X : Int) (hX : (x : Int) = X) : RT9 (w.setCell ⟨tp, 274 + j, none⟩ (.int .u64 X)) tp rp lf A (updF B j x) := by
  subst hX
  obtain ⟨cs, h1, h2, h3, h4, h5, h6, h7⟩ := h
  refine ⟨cs.setIfInBounds (274 + j) (.int .u64 (x : Int)), heap_setCell_same w tp (274 + j) _ _ _ h1, by simp [h2], ?_, ?_, fun i hi => ?_, fun i hi => ?_, fun i hi => ?_⟩
  · rw [Array.getElem?_setIfInBounds_ne (by omega)]; exact h3
  · rw [Array.getElem?_setIfInBounds_ne (by omega)]; exact h4
  · rw [Array.getElem?_setIfInBounds_ne (by omega)]; exact h5 i hi
  · rw [Array.getElem?_setIfInBounds_ne (by omega)]; exact h6 i hi
  · by_cases e : i = j
    · subst e
      rw [updF_same]
      simp [h2, show 274 + i < 530 by omega]
    · rw [updF_other _ _ e, Array.getElem?_setIfInBounds_ne (by omega)]
      exact h7 i hi
set_option maxRecDepth 100000 in
theorem r9get_out (S : Int) (hS : S < 0 ∨ 255 < S) (w : World) : Calls Tryz.prog 18 #[.pointer (some ⟨tp, 0, none⟩), .int .i64 S] w fun e w' => e = .returned (.tuple #[.int .u64 0, .int .u64 0]) ∧ Below w.heap.size w w' := by
  by_cases q : S < 0
  · have t1 : decide (S < 0) = true := decide_eq_true q
    clear hS q
    go_enter Tryz.func18, Tryz.ntmps18
    go_wp2
    go_ret2
    exact ⟨rfl, Below.refl _ _⟩
  · have t1 : decide (S < 0) = false := decide_eq_false q
    have t2 : decide (255 < S) = true := decide_eq_true (by omega)
    clear hS q
    go_enter Tryz.func18, Tryz.ntmps18
    go_wp2
    go_ret2
    exact ⟨rfl, Below.refl _ _⟩
set_option maxRecDepth 100000 in
theorem r9get_in (h : RT9 w tp rp lf A B) (s : Nat) (hs : s < 256) (S X Y : Int) (hS : (s : Int) = S) (hX : (A s : Int) = X) (hY : (B s : Int) = Y) : Calls Tryz.prog 18 #[.pointer (some ⟨tp, 0, none⟩), .int .i64 S] w fun e w' => e = .returned (.tuple #[.int .u64 X, .int .u64 Y]) ∧ Below w.heap.size w w' := by
  have t1 : decide (S < 0) = false := decide_eq_false (by omega)
  have t2 : decide (255 < S) = false := decide_eq_false (by omega)
  have i0 : (0 : Int) ≤ S := by omega
  have i1 : S < 256 := by omega
  have en : S.toNat = s := by omega
  have c1 : w.cell? ⟨tp, 18 + S.toNat, none⟩ = some (.int .u64 X) := by rw [en, h.a hs, hX]
  have c2 : w.cell? ⟨tp, 274 + S.toNat, none⟩ = some (.int .u64 Y) := by rw [en, h.b hs, hY]
  clear h hs hS hX hY en
  go_enter Tryz.func18, Tryz.ntmps18
  go_wp2_with fail
  go_region_law (fail)
  all_goals
    go_wp2
    go_ret2
    exact ⟨rfl, (Below.refl _ _).drew⟩
set_option maxRecDepth 100000 in
set_option maxHeartbeats 3200000 in
theorem r9slots (h : RT9 w tp rp lf A B) (m : Nat) (hm : (slotsL A 256).length = m) :
    Calls Tryz.prog 23 #[.pointer (some ⟨tp, 0, none⟩)] w fun e w' => ∃ A' k', e = .returned (.slice A' m k') ∧ w'.ownsRow w.heap.size 3 1 (.slice A' m k') m (i64s (slotsL A 256)) ∧ Below w.heap.size w w' := by
  obtain ⟨i0, hi0, hz0, hz1, hz2⟩ := info_parts info_int
  have H := Lib.hid h
  have HM := Lib.hid hm
  clear h hm
  go_enter Tryz.func23, Tryz.ntmps23
  go_wp2_with fail
  go_loopw [3, 4] (fun v3 v4 wr => ∃ (k j : Nat) (A1 : Option Addr) (k1 : Nat), v4 = .int .i64 (k : Int) ∧ k ≤ 256 ∧ j = (slotsL A k).length ∧ v3 = .slice A1 j k1 ∧ wr.ownsRow w.heap.size 3 1 (.slice A1 j k1) j (i64s (slotsL A k)) ∧ Below w.heap.size w wr) (fun _ v4 _ => 256 - (intOf v4).toNat)
  case atStart => exact ⟨0, 0, none, 0, rfl, Nat.zero_le _, rfl, rfl, World.ownsRow_nil _ _ _ _, Below.refl _ _⟩
  case round =>
    obtain ⟨k, j, A1, k1, rfl, hk, hj, rfl, ho, hwr⟩ := hrel
    have HO := Lib.hid ho
    have HWR := Lib.hid hwr
    have HJ := Lib.hid hj
    by_cases q : k < 256
    · have j1 : decide ((k : Int) < 256) = true := decide_eq_true (by omega)
      have n0 : (0 : Int) ≤ (k : Int) := by omega
      have n1 : (k : Int) < 256 := by omega
      have zk : IntKind.i64.wrap ((k : Int) + 1) = (k : Int) + 1 := by rw [IntKind.wrap_i64]; omega
      obtain ⟨X, hX⟩ : ∃ X : Int, (A k : Int) = X := ⟨_, rfl⟩
      have c1 : wr.cell? ⟨tp, 18 + k, none⟩ = some (.int .u64 X) := by rw [(H.out.below hwr).a q, hX]
      have HX := Lib.hid hX
      have HQ := Lib.hid q
      clear ho hwr hX q hk hj
      by_cases q : X = 0
      · have t1 : (X != 0) = false := by simp [q]
        have HE : Hid (slotsL A (k + 1) = slotsL A k) := Lib.hid (by rw [slotsL_succ, if_pos (by have := HX.out; omega)])
        clear q
        go_wp2
        go_roundw
        case rel => exact ⟨k + 1, j, A1, k1, by go_num, HQ.out, by rw [HE.out]; exact HJ.out, rfl, by rw [HE.out]; exact HO.out, HWR.out⟩
        case measure => have := HQ.out; (try simp [intOf]) <;> omega
      · have t1 : (X != 0) = true := by simp [q]
        have HE : Hid (slotsL A (k + 1) = slotsL A k ++ [(k : Int)]) := Lib.hid (by rw [slotsL_succ, if_neg (by have := HX.out; omega)])
        have HJB : Hid (j ≤ 256) := Lib.hid (by have := slotsL_length A k; have := HJ.out; have := HQ.out; omega)
        have HT : Hid (i64s (slotsL A k) ++ i64s [(k : Int)] = i64s (slotsL A (k + 1))) := Lib.hid (by rw [HE.out, i64s, i64s, i64s, List.map_append])
        clear q
        go_wp2_with (first | (at_builtin; refine wpList_app _ rfl (.tmp 16) (.tmp 18) 24 rfl w.heap.size 3 i0 _ 1 8 Tryz.underlying24 hi0 hz0 hz1 hz2 rfl (by omega) A1 j k1 _ rfl (ownsRow_below HO.out ((Below.refl _ wr).alloc (Nat.le_refl _) _)) _ 1 1 (i64s [(k : Int)]) rfl (by rfl) (SlR_new wr #[.int .i64 (k : Int)] 3) (i64s_one _) (by have := HJB.out; unfold maxLen; omega) (by have := HJB.out; omega) (by have := HWR.out.size; simp; omega) ?_; intro A3 k3 w3 hown3 hg3 hb3))
        have HB3 : Hid (Below w.heap.size w w3) := Lib.hid ((HWR.out.alloc HWR.out.size _).trans hb3)
        rw [HT.out] at hown3
        have HO3 := Lib.hid hown3
        clear hown3 hg3 hb3
        go_wp2
        go_roundw
        case rel => exact ⟨k + 1, j + 1, A3, k3, by go_num, HQ.out, by rw [HE.out, List.length_append, ← HJ.out]; rfl, rfl, HO3.out, HB3.out⟩
        case measure => have := HQ.out; (try simp [intOf]) <;> omega
    · have j1 : decide ((k : Int) < 256) = false := decide_eq_false (by omega)
      have ek : k = 256 := by omega
      subst ek
      have ej : j = m := by rw [hj]; exact HM.out
      subst ej
      clear hwr ho hk hj q
      go_wp2
      go_ret
      exact ⟨A1, k1, rfl, HO.out, HWR.out⟩
set_option maxRecDepth 100000 in
set_option maxHeartbeats 3200000 in
theorem r9leaves (h : RT9 w tp rp lf A B) (m : Nat) (hm : (leavesL lf 16).length = m) :
    Calls Tryz.prog 24 #[.pointer (some ⟨tp, 0, none⟩)] w fun e w' => ∃ A' k', e = .returned (.slice A' m k') ∧ w'.ownsRow w.heap.size 3 1 (.slice A' m k') m (i64s (leavesL lf 16)) ∧ Below w.heap.size w w' := by
  obtain ⟨i0, hi0, hz0, hz1, hz2⟩ := info_parts info_int
  have H := Lib.hid h
  have HM := Lib.hid hm
  clear h hm
  go_enter Tryz.func24, Tryz.ntmps24
  go_wp2_with fail
  go_loopw [3, 4] (fun v3 v4 wr => ∃ (k j : Nat) (A1 : Option Addr) (k1 : Nat), v4 = .int .i64 (k : Int) ∧ k ≤ 16 ∧ j = (leavesL lf k).length ∧ v3 = .slice A1 j k1 ∧ wr.ownsRow w.heap.size 3 1 (.slice A1 j k1) j (i64s (leavesL lf k)) ∧ Below w.heap.size w wr) (fun _ v4 _ => 16 - (intOf v4).toNat)
  case atStart => exact ⟨0, 0, none, 0, rfl, Nat.zero_le _, rfl, rfl, World.ownsRow_nil _ _ _ _, Below.refl _ _⟩
  case round =>
    obtain ⟨k, j, A1, k1, rfl, hk, hj, rfl, ho, hwr⟩ := hrel
    have HO := Lib.hid ho
    have HWR := Lib.hid hwr
    have HJ := Lib.hid hj
    by_cases q : k < 16
    · have j1 : decide ((k : Int) < 16) = true := decide_eq_true (by omega)
      have n0 : (0 : Int) ≤ (k : Int) := by omega
      have n1 : (k : Int) < 16 := by omega
      have zk : IntKind.i64.wrap ((k : Int) + 1) = (k : Int) + 1 := by rw [IntKind.wrap_i64]; omega
      obtain ⟨X, hX⟩ : ∃ X : Int, (lf k : Int) = X := ⟨_, rfl⟩
      have c1 : wr.cell? ⟨tp, 2 + k, none⟩ = some (.int .i64 X) := by rw [(H.out.below hwr).leaf q, hX]
      have HX := Lib.hid hX
      have HQ := Lib.hid q
      clear ho hwr hX q hk hj
      by_cases q : X = 0
      · have t1 : (X != 0) = false := by simp [q]
        have HE : Hid (leavesL lf (k + 1) = leavesL lf k) := Lib.hid (by rw [leavesL_succ, if_pos (by have := HX.out; omega)])
        clear q
        go_wp2
        go_roundw
        case rel => exact ⟨k + 1, j, A1, k1, by go_num, HQ.out, by rw [HE.out]; exact HJ.out, rfl, by rw [HE.out]; exact HO.out, HWR.out⟩
        case measure => have := HQ.out; (try simp [intOf]) <;> omega
      · have t1 : (X != 0) = true := by simp [q]
        have HE : Hid (leavesL lf (k + 1) = leavesL lf k ++ [X]) := Lib.hid (by rw [leavesL_succ, if_neg (by have := HX.out; omega), HX.out])
        have HJB : Hid (j ≤ 16) := Lib.hid (by have := leavesL_length lf k; have := HJ.out; have := HQ.out; omega)
        have HT : Hid (i64s (leavesL lf k) ++ i64s [X] = i64s (leavesL lf (k + 1))) := Lib.hid (by rw [HE.out, i64s, i64s, i64s, List.map_append])
        clear q
        go_wp2_with (first | (at_builtin; refine wpList_app _ rfl (.tmp 16) (.tmp 23) 24 rfl w.heap.size 3 i0 _ 1 8 Tryz.underlying24 hi0 hz0 hz1 hz2 rfl (by omega) A1 j k1 _ rfl (ownsRow_below HO.out ((Below.refl _ wr).alloc (Nat.le_refl _) _)) _ 1 1 (i64s [X]) rfl (by rfl) (SlR_new wr #[.int .i64 X] 3) (i64s_one _) (by have := HJB.out; unfold maxLen; omega) (by have := HJB.out; omega) (by have := HWR.out.size; simp; omega) ?_; intro A3 k3 w3 hown3 hg3 hb3))
        have HB3 : Hid (Below w.heap.size w w3) := Lib.hid ((HWR.out.alloc HWR.out.size _).trans hb3)
        rw [HT.out] at hown3
        have HO3 := Lib.hid hown3
        clear hown3 hg3 hb3
        go_wp2
        go_roundw
        case rel => exact ⟨k + 1, j + 1, A3, k3, by go_num, HQ.out, by rw [HE.out, List.length_append, ← HJ.out]; rfl, rfl, HO3.out, HB3.out⟩
        case measure => have := HQ.out; (try simp [intOf]) <;> omega
    · have j1 : decide ((k : Int) < 16) = false := decide_eq_false (by omega)
      have ek : k = 16 := by omega
      subst ek
      have ej : j = m := by rw [hj]; exact HM.out
      subst ej
      clear hwr ho hk hj q
      go_wp2
      go_ret
      exact ⟨A1, k1, rfl, HO.out, HWR.out⟩
end
end Go.Proofs.YtflkoabgkgegjaaGreatDoor
/- The reference's table: Need. Condition: its row is read, and the slots that are asked. -/
namespace Go.Proofs.YtflkoabgkgegjaaGreatDoor
open Go.RowKit Go.Maps

/-- an array of 16 bools -/
def B9 (w : World) (ab : Nat) (F : Nat → Bool) : Prop := ∃ cs : Array Value, w.heap[ab]? = some (.cells cs 112 (0, 0)) ∧ cs.size = 16 ∧ ∀ i, i < 16 → cs[i]? = some (.bool (F i))
section
variable {w w' : World} {ab : Nat} {F : Nat → Bool}
theorem B9.below (h : B9 w ab F) (hb : Below w.heap.size w w') : B9 w' ab F := by
  obtain ⟨cs, h1, h2⟩ := h
  exact ⟨cs, (hb.block _ (blt h1)).trans h1, h2⟩
theorem B9.cell (h : B9 w ab F) {i : Nat} (hi : i < 16) : w.cell? ⟨ab, i, none⟩ = some (.bool (F i)) := by
  obtain ⟨cs, h1, h2, h3⟩ := h
  rw [cell_of_row _ _ _ _ _ _ h1, h3 i hi]
theorem B9.froz (h : B9 w ab F) (i : Nat) : w.frozen? ⟨ab, i, none⟩ = false := by
  obtain ⟨cs, h1, h2, h3⟩ := h
  exact frozen_of_row _ _ _ _ _ h1
theorem B9.set (h : B9 w ab F) {i : Nat} (hi : i < 16) : B9 (w.setCell ⟨ab, i, none⟩ (.bool true)) ab (fun j => F j || decide (j = i)) := by
  obtain ⟨cs, h1, h2, h3⟩ := h
  refine ⟨cs.setIfInBounds i (.bool true), heap_setCell_same w ab i _ _ _ h1, by simp [h2], fun j hj => ?_⟩
  by_cases e : j = i
  · subst e
    simp [h2, hj]
  · rw [Array.getElem?_setIfInBounds_ne (Ne.symm e), h3 j hj]
    simp [e]
theorem B9.congr {G : Nat → Bool} (h : B9 w ab F) (he : ∀ i, i < 16 → G i = F i) : B9 w ab G := by
  obtain ⟨cs, h1, h2, h3⟩ := h
  exact ⟨cs, h1, h2, fun i hi => by rw [h3 i hi, he i hi]⟩
end
theorem count_up (F G : Nat → Bool) (j : Nat) (hF : F j = false) : ∀ n, j < n → (∀ i, i < n → G i = (F i || decide (i = j))) → (List.range n).countP G = (List.range n).countP F + 1
  | 0, h, _ => absurd h (Nat.not_lt_zero _)
  | n + 1, h, hG => by
    rw [List.range_succ, List.countP_append, List.countP_append]
    by_cases e : j = n
    · subst e
      have h1 : (List.range j).countP G = (List.range j).countP F := List.countP_congr fun i hi => by
        have := List.mem_range.1 hi
        rw [hG i (by omega)]
        simp [show i ≠ j by omega]
      have h2 := hG j (by omega)
      rw [h1]
      simp [h2, hF]
    · have ih := count_up F G j hF n (by omega) fun i hi => hG i (by omega)
      have h2 := hG n (by omega)
      rw [ih]
      have h3 : G n = F n := by rw [h2]; simp [show n ≠ j by omega]
      simp [h3]
      omega
def cntB (lf : Nat → Nat) (L : List Int) : Nat := (List.range 16).countP (needB lf L)
theorem cntB_le (lf : Nat → Nat) (L : List Int) : cntB lf L ≤ 16 := by
  have := List.countP_le_length (p := needB lf L) (l := List.range 16)
  rw [List.length_range] at this
  exact this
theorem needB_none {lf : Nat → Nat} {L : List Int} {s : Int} (h : ∀ j, ¬ (lf j = 0 ∧ 0 ≤ s ∧ s < 256 ∧ s.toNat / 16 = j)) : needB lf (L ++ [s]) = needB lf L := by
  funext j
  rw [needB_snoc, decide_eq_false (h j), Bool.or_false]
section
variable {w w' : World} {tp rp : Nat} {lf A B : Nat → Nat}
set_option maxRecDepth 100000 in
set_option maxHeartbeats 3200000 in
theorem r9need (h : RT9 w tp rp lf A B) (Q : List Int) (m : Nat) (hm : Q.length = m) (hml : m ≤ 1073741824) (Aq : Option Addr) (cap : Nat) (hA : SlR w Aq (i64s Q)) (N : Int) (hN : ((needN lf Q : Nat) : Int) = N) :
    Calls Tryz.prog 25 #[.pointer (some ⟨tp, 0, none⟩), .slice Aq m cap] w fun e w' => e = .returned (.int .i64 N) ∧ Below w.heap.size w w' := by
  have H := Lib.hid h
  have HA := Lib.hid hA
  have HM : Hid (Q.length = m ∧ m ≤ 1073741824) := Lib.hid ⟨hm, hml⟩
  have HN := Lib.hid hN
  clear h hA hm hml hN
  have b1 : Below w.heap.size w (w.alloc (.cells #[.bool false, .bool false, .bool false, .bool false, .bool false, .bool false, .bool false, .bool false, .bool false, .bool false, .bool false, .bool false, .bool false, .bool false, .bool false, .bool false] 112)) := (Below.refl _ w).alloc (Nat.le_refl _) _
  have x1 := heap_alloc_new w (.cells #[.bool false, .bool false, .bool false, .bool false, .bool false, .bool false, .bool false, .bool false, .bool false, .bool false, .bool false, .bool false, .bool false, .bool false, .bool false, .bool false] 112)
  obtain ⟨ab, hab⟩ : ∃ ab, w.heap.size = ab := ⟨_, rfl⟩
  rw [hab] at x1
  go_enter Tryz.func25, Tryz.ntmps25
  go_wp2_with fail
  generalize w.alloc (.cells #[.bool false, .bool false, .bool false, .bool false, .bool false, .bool false, .bool false, .bool false, .bool false, .bool false, .bool false, .bool false, .bool false, .bool false, .bool false, .bool false] 112) = w1 at b1 x1 ⊢
  have hB1 : B9 w1 ab (needB lf (Q.take 0)) := ⟨_, x1, rfl, fun i hi => by
    have e : needB lf (Q.take 0) i = false := by simp [needB]
    rw [e]
    have : i = 0 ∨ i = 1 ∨ i = 2 ∨ i = 3 ∨ i = 4 ∨ i = 5 ∨ i = 6 ∨ i = 7 ∨ i = 8 ∨ i = 9 ∨ i = 10 ∨ i = 11 ∨ i = 12 ∨ i = 13 ∨ i = 14 ∨ i = 15 := by omega
    rcases this with rfl | rfl | rfl | rfl | rfl | rfl | rfl | rfl | rfl | rfl | rfl | rfl | rfl | rfl | rfl | rfl <;> rfl⟩
  have HB1 := Lib.hid hB1
  have HW1 := Lib.hid b1
  have HAB : Hid (w.heap.size ≤ ab) := Lib.hid (by omega)
  have HC0 : Hid (cntB lf (Q.take 0) = 0) := Lib.hid (by simp [cntB, needB])
  clear b1 x1 hB1 hab
  go_loopw [6, 7] (fun v6 v7 wr => ∃ k : Nat, v7 = .int .i64 (k : Int) ∧ k ≤ m ∧ v6 = .int .i64 ((cntB lf (Q.take k) : Nat) : Int) ∧ B9 wr ab (needB lf (Q.take k)) ∧ Below w.heap.size w wr) (fun _ v7 _ => m - (intOf v7).toNat)
  case atStart => exact ⟨0, rfl, Nat.zero_le _, by rw [HC0.out]; rfl, HB1.out, HW1.out⟩
  case round =>
    obtain ⟨k, rfl, hk, rfl, hb, hwr⟩ := hrel
    have HB := Lib.hid hb
    have HWR := Lib.hid hwr
    obtain ⟨cn, hcn⟩ : ∃ n : Int, ((cntB lf (Q.take k) : Nat) : Int) = n := ⟨_, rfl⟩
    rw [hcn]
    have HCN := Lib.hid hcn
    by_cases q : k < m
    · have hkl : k < Q.length := by have := HM.out; omega
      have i1 : (k : Int) < (m : Int) := by omega
      have i0 : (0 : Int) ≤ (k : Int) := by omega
      have zk : IntKind.i64.wrap ((k : Int) + 1) = (k : Int) + 1 := by rw [IntKind.wrap_i64]; have := HM.out; omega
      obtain ⟨g, off, rfl, hc⟩ := (HA.out.below hwr).int hkl
      obtain ⟨S, hS⟩ : ∃ S : Int, Q[k] = S := ⟨_, rfl⟩
      rw [hS] at hc
      have HT : Hid (Q.take (k + 1) = Q.take k ++ [S]) := Lib.hid (by rw [List.take_add_one, List.getElem?_eq_getElem hkl, hS]; rfl)
      have HQ := Lib.hid q
      have h9 := H.out.below hwr
      clear hb hwr hkl hS q hk hcn
      by_cases q1 : S < 0
      · have t1 : decide (0 ≤ S) = false := decide_eq_false (by omega)
        have HE : Hid (needB lf (Q.take (k + 1)) = needB lf (Q.take k)) := Lib.hid (by rw [HT.out]; exact needB_none fun j hj => by omega)
        clear q1 h9
        go_wp2_with fail
        refine wp_region_still_lit (by as_aux_lemma => kernel_rfl) (by as_aux_lemma => kernel_rfl) ?_
        iterate 35 (with_reducible refine wpStill_step (fun K hK => ?_); go_simp; with_reducible refine hK _ ?_; clear hK K)
        with_reducible refine wpStill_nil ?_
        go_wp2
        go_roundw
        case rel => exact ⟨k + 1, by go_num, HQ.out, by rw [cntB, HE.out, ← HCN.out]; rfl, by rw [HE.out]; exact HB.out.below (Below.refl _ _).drew, HWR.out.drew⟩
        case measure => have := HQ.out; (try simp [intOf]) <;> omega
      · have t1 : decide (0 ≤ S) = true := decide_eq_true (by omega)
        by_cases q2 : 255 < S
        · have t2 : decide (S ≤ 255) = false := decide_eq_false (by omega)
          have HE : Hid (needB lf (Q.take (k + 1)) = needB lf (Q.take k)) := Lib.hid (by rw [HT.out]; exact needB_none fun j hj => by omega)
          clear q1 q2 h9
          go_wp2_with fail
          refine wp_region_still_lit (by as_aux_lemma => kernel_rfl) (by as_aux_lemma => kernel_rfl) ?_
          iterate 35 (with_reducible refine wpStill_step (fun K hK => ?_); go_simp; with_reducible refine hK _ ?_; clear hK K)
          with_reducible refine wpStill_nil ?_
          go_wp2
          go_roundw
          case rel => exact ⟨k + 1, by go_num, HQ.out, by rw [cntB, HE.out, ← HCN.out]; rfl, by rw [HE.out]; exact HB.out.below (Below.refl _ _).drew, HWR.out.drew⟩
          case measure => have := HQ.out; (try simp [intOf]) <;> omega
        · have t2 : decide (S ≤ 255) = true := decide_eq_true (by omega)
          obtain ⟨s, hs⟩ : ∃ s : Nat, (s : Int) = S := ⟨S.toNat, by omega⟩
          have hs2 : s < 256 := by omega
          obtain ⟨D, hD⟩ : ∃ D : Int, ((s / 16 : Nat) : Int) = D := ⟨_, rfl⟩
          obtain ⟨V, hV⟩ : ∃ V : Int, ((lf (s / 16) : Nat) : Int) = V := ⟨_, rfl⟩
          have z1 : S.tdiv 16 = D := by rw [← hs, Int.tdiv_eq_ediv_of_nonneg (by omega)]; omega
          have z2 : IntKind.i64.wrap D = D := by rw [IntKind.wrap_i64]; omega
          have z3 : wrap64 D = D := by unfold wrap64; omega
          have d0 : (0 : Int) ≤ D := by omega
          have d1 : D < 16 := by omega
          have en : D.toNat = s / 16 := by omega
          have c1 : wr.cell? ⟨tp, 2 + D.toNat, none⟩ = some (.int .i64 V) := by rw [en, h9.leaf (by omega), hV]
          have HSV : Hid ((s : Int) = S ∧ s < 256 ∧ D.toNat = s / 16) := Lib.hid ⟨hs, hs2, en⟩
          have HV := Lib.hid hV
          clear q1 q2 h9 hs hs2 hD en hV
          by_cases q3 : V = 0
          · have t3 : (V == 0) = true := by simp [q3]
            obtain ⟨bb, hbb⟩ : ∃ bb : Bool, needB lf (Q.take k) (s / 16) = bb := ⟨_, rfl⟩
            have c2 : wr.cell? ⟨ab, D.toNat, none⟩ = some (.bool bb) := by rw [HSV.out.2.2, HB.out.cell (by have := HSV.out; omega), hbb]
            have HQ3 := Lib.hid q3
            have HBB := Lib.hid hbb
            have HST : Hid (∀ i, i < 16 → needB lf (Q.take (k + 1)) i = (needB lf (Q.take k) i || decide (i = s / 16))) := Lib.hid (fun i hi => by
              rw [HT.out, needB_snoc]
              congr 1
              rw [decide_eq_decide]
              have h1 := HSV.out
              have h2 := HV.out
              have h3 := HQ3.out
              constructor
              · rintro ⟨_, _, _, h4⟩
                omega
              · intro h4
                exact ⟨by rw [h4]; omega, by omega, by omega, by omega⟩)
            clear q3 hbb
            cases bb with
            | true =>
              have HE : Hid (∀ i, i < 16 → needB lf (Q.take (k + 1)) i = needB lf (Q.take k) i) := Lib.hid (fun i hi => by
                rw [HST.out i hi]
                by_cases e : i = s / 16
                · rw [e, HBB.out]; rfl
                · simp [e])
              have HEC : Hid (cntB lf (Q.take (k + 1)) = cntB lf (Q.take k)) := Lib.hid (List.countP_congr fun i hi => by rw [HE.out i (List.mem_range.1 hi)])
              go_wp2_with fail
              refine wp_region_still_lit (by as_aux_lemma => kernel_rfl) (by as_aux_lemma => kernel_rfl) ?_
              iterate 35 (with_reducible refine wpStill_step (fun K hK => ?_); go_simp; with_reducible refine hK _ ?_; clear hK K)
              with_reducible refine wpStill_nil ?_
              go_wp2
              go_roundw
              case rel => exact ⟨k + 1, by go_num, HQ.out, by rw [HEC.out, ← HCN.out], (HB.out.congr HE.out).below (Below.refl _ _).drew, HWR.out.drew⟩
              case measure => have := HQ.out; (try simp [intOf]) <;> omega
            | false =>
              have HEC : Hid (cntB lf (Q.take (k + 1)) = cntB lf (Q.take k) + 1) := Lib.hid (count_up _ _ (s / 16) HBB.out 16 (by have := HSV.out; omega) HST.out)
              have zc : IntKind.i64.wrap (cn + 1) = cn + 1 := by rw [IntKind.wrap_i64]; have := HCN.out; have := cntB_le lf (Q.take k); omega
              have HB2 := Lib.hid (HB.out.below (Below.refl _ _).drew)
              have fz : wr.drew.frozen? ⟨ab, D.toNat, none⟩ = false := HB2.out.froz _
              have c3 : wr.drew.cell? ⟨ab, D.toNat, none⟩ = some (.bool false) := c2
              go_wp2_with fail
              refine wp_region_still_lit (by as_aux_lemma => kernel_rfl) (by as_aux_lemma => kernel_rfl) ?_
              iterate 35 (with_reducible refine wpStill_step (fun K hK => ?_); go_simp; with_reducible refine hK _ ?_; clear hK K)
              with_reducible refine wpStill_nil ?_
              go_wp2
              go_roundw
              case rel => exact ⟨k + 1, by go_num, HQ.out, by rw [HEC.out]; congr 1; have := HCN.out; omega, by
                have h1 := (HB2.out.set (i := D.toNat) (by have := HSV.out; omega)).congr (G := needB lf (Q.take (k + 1))) (fun i hi => by rw [HST.out i hi, HSV.out.2.2])
                exact h1, (HWR.out.drew).setCell (p := ⟨ab, D.toNat, none⟩) HAB.out _⟩
              case measure => have := HQ.out; (try simp [intOf]) <;> omega
          · have t3 : (V == 0) = false := by simp [q3]
            have HE : Hid (needB lf (Q.take (k + 1)) = needB lf (Q.take k)) := Lib.hid (by
              rw [HT.out]
              exact needB_none fun j hj => by
                have h1 := HSV.out
                have h2 := HV.out
                have h3 : s / 16 = j := by omega
                rw [h3] at h2
                omega)
            clear q3
            go_wp2_with fail
            refine wp_region_still_lit (by as_aux_lemma => kernel_rfl) (by as_aux_lemma => kernel_rfl) ?_
            iterate 35 (with_reducible refine wpStill_step (fun K hK => ?_); go_simp; with_reducible refine hK _ ?_; clear hK K)
            with_reducible refine wpStill_nil ?_
            go_wp2
            go_roundw
            case rel => exact ⟨k + 1, by go_num, HQ.out, by rw [cntB, HE.out, ← HCN.out]; rfl, by rw [HE.out]; exact HB.out.below (Below.refl _ _).drew, HWR.out.drew⟩
            case measure => have := HQ.out; (try simp [intOf]) <;> omega
    · have i1 : ¬ ((k : Int) < (m : Int)) := by omega
      have HP : Hid (cn = N) := Lib.hid (by
        rw [← hcn, ← HN.out, cntB, needN, List.take_of_length_le (by have := HM.out; omega)])
      clear hb hwr hk q hcn
      go_wp2
      go_ret
      rw [HP.out]
      exact ⟨rfl, HWR.out⟩
end
end Go.Proofs.YtflkoabgkgegjaaGreatDoor
