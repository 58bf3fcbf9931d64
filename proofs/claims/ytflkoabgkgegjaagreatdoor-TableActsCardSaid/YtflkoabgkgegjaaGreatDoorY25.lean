/- The reference's put. Condition: the list is read. And what follows from it. -/
import Derived.Test.YtflkoabgkgegjaaGreatDoorY23
import Derived.Test.YtflkoabgkgegjaaGreatDoorY24
/- The reference's put. Condition: the list is read. -/
namespace Go.Proofs.YtflkoabgkgegjaaGreatDoor
open Go.RowKit

theorem new_held (wq : World) (o : Obj) (x : Nat × Nat) (cs : Array Value) (hc : bCells [x] = cs.toList) : HeldS ((wq.alloc o).alloc (.cells cs 135)).drew (some ⟨wq.heap.size + 1, 0, none⟩, bCells [x]) := fun _ => by
  have h1 := heap_alloc_new (wq.alloc o) (.cells cs 135)
  rw [World.size_alloc] at h1
  refine ⟨_, 0, _, _, rfl, h1, ⟨by decide, (tyOf_bCells _).symm⟩, fun j u hu => ?_⟩
  simp only [hc] at hu
  simpa using hu
theorem new_held0 (wq : World) (o : Obj) (x : Nat × Nat) (cs : Array Value) (hc : bCells [x] = cs.toList) : HeldS ((wq.alloc (.cells cs 135)).alloc o).drew (some ⟨wq.heap.size, 0, none⟩, bCells [x]) := fun _ => by
  have h1 := heap_alloc_new wq (.cells cs 135)
  refine ⟨_, 0, _, _, rfl, (((Below.refl _ (wq.alloc (.cells cs 135))).alloc (Nat.le_refl _) o).block wq.heap.size (by rw [World.size_alloc]; omega)).trans h1, ⟨by decide, (tyOf_bCells _).symm⟩, fun j u hu => ?_⟩
  simp only [hc] at hu
  simpa using hu
theorem lit2 {base : Nat} (wq : World) (o : Obj) (h : base ≤ wq.heap.size) : ((wq.alloc o).alloc (.cells #[] 135)).ownsRow base 135 2 (.slice (some ⟨wq.heap.size + 1, 0, none⟩) 0 0) 0 [] := by
  have h1 := World.ownsRow_lit (base := base) (e := 135) (size := 2) (wq.alloc o) #[] 0 (by rw [World.size_alloc]; omega) (by decide) rfl
  rw [World.size_alloc] at h1
  exact h1
set_option maxRecDepth 100000 in
set_option maxHeartbeats 3200000 in
theorem put_r (L : List (Nat × Nat)) (m : Nat) (hm : m = L.length) (hl : m ≤ 1048576) (A : Option Addr) (ca : Nat) (hca : m ≤ ca) (x : Nat × Nat) (X1 X2 : Int) (h1 : X1 = ((1024 * x.1 : Nat) : Int)) (h2 : X2 = (x.2 : Int)) (w : World) (hA : SlR w A (bCells L)) :
    Calls Tryz.prog 97 #[.slice A m ca, .agg #[.int .i64 X1, .int .i64 X2]] w fun e w' => ∃ A' c' L', e = .returned (.slice A' (m + 1) c') ∧ m + 1 ≤ c' ∧ PutR L x L' ∧ HeldS w' (A', bCells L') ∧ (∀ a, A' = some a → w.heap.size ≤ a.block) ∧ Below w.heap.size w w' := by
  obtain ⟨i0, hi0, hz0, hz1, hz2⟩ := info_parts info_blk
  have HA := Lib.hid hA
  have HM := Lib.hid hm
  have HL := Lib.hid hl
  have HCA := Lib.hid hca
  have H1 := Lib.hid h1
  have HCX : Hid (bCells [x] = #[Value.int .i64 X1, .int .i64 X2].toList) := Lib.hid (by rw [h1, h2]; rfl)
  have TW : Hid (∀ wX, Below (w.heap.size + 1) (w.alloc (.cells #[.int .i64 X1, .int .i64 X2] 135)) wX → Below w.heap.size w wX) := Lib.hid (fun wX h => ((Below.refl _ _).alloc (Nat.le_refl _) _).trans (h.mono (Nat.le_succ _)))
  have LE1 : ∀ {wX : World}, Below (w.heap.size + 1) (w.alloc (.cells #[.int .i64 X1, .int .i64 X2] 135)) wX → w.heap.size + 1 ≤ wX.heap.size := fun {wX} h => by have := h.size; rwa [World.size_alloc] at this
  have CB : Hid (∀ wX, Below (w.heap.size + 1) (w.alloc (.cells #[.int .i64 X1, .int .i64 X2] 135)) wX → wX.cell? ⟨w.heap.size, 0, none⟩ = some (.int .i64 X1) ∧ wX.cell? ⟨w.heap.size, 1, none⟩ = some (.int .i64 X2)) := Lib.hid (fun wX h => by
    have hrow := (h.block w.heap.size (Nat.lt_succ_self _)).trans (heap_alloc_new w _)
    exact ⟨by rw [cell_of_row _ _ _ _ _ _ hrow]; rfl, by rw [cell_of_row _ _ _ _ _ _ hrow]; rfl⟩)
  clear hA hm hl hca h1 h2
  go_enter Tryz.func97, Tryz.ntmps97
  go_wp2
  go_loopw [5] (fun a wr => ∃ k : Nat, k ≤ m ∧ a = .int .i64 (k : Int) ∧ (∀ j (hj : j < L.length), k ≤ j → x.1 < L[j].1) ∧ Below (w.heap.size + 1) (w.alloc (.cells #[.int .i64 X1, .int .i64 X2] 135)) wr) (fun a _ => (intOf a).toNat)
  case atStart => exact ⟨m, Nat.le_refl _, rfl, fun j hj hk => absurd hj (by have := HM.out; omega), Below.refl _ _⟩
  case round =>
    obtain ⟨k, hk, rfl, hn, hb⟩ := hrel
    have HNo := Lib.hid hn
    have HB := Lib.hid hb
    obtain ⟨cx0, cx1⟩ := CB.out _ hb
    clear hn hb
    obtain ⟨A1, hs1, hr1⟩ := slice_hi A m ca k (k : Int) rfl (by have := HCA.out; omega)
    obtain ⟨A2, hs2, hr2⟩ := slice_lo A m ca k (k : Int) rfl hk HCA.out
    have HR1 := Lib.hid (hr1 _ _ HA.out)
    have HR2 := Lib.hid (hr2 _ _ HM.out.symm HA.out)
    have LT : Hid ((bCells (L.take k)).length = k * 2) := Lib.hid (by rw [bCells_length, List.length_take]; have := HM.out; omega)
    have LD : Hid ((bCells (L.drop k)).length = (m - k) * 2) := Lib.hid (by rw [bCells_length, List.length_drop, HM.out])
    have KM : Hid (k ≤ m ∧ m ≤ 1048576) := Lib.hid ⟨hk, HL.out⟩
    have k00 : (0 : Int) ≤ (k : Int) := by omega
    clear hr1 hr2
    by_cases hk0 : 0 < k
    · obtain ⟨k', hk'⟩ : ∃ k', k = k' + 1 := ⟨k - 1, by omega⟩
      have hlt : k' < L.length := by have := HM.out; omega
      obtain ⟨b, off, rfl, _, q1, q2⟩ := (HA.out.below (TW.out _ HB.out)).blk' hlt
      obtain ⟨Y, hY⟩ : ∃ Y : Int, ((1024 * L[k'].1 : Nat) : Int) = Y := ⟨_, rfl⟩
      rw [hY] at q1
      have i1 : (0 : Int) < (k : Int) := by omega
      have i2 : (0 : Int) ≤ (k' : Int) := by omega
      have i3 : (k' : Int) < (m : Int) := by omega
      have zk : IntKind.i64.wrap ((k : Int) - 1) = (k' : Int) := by rw [IntKind.wrap_i64]; have := HL.out; omega
      by_cases hxy : X1 < Y
      · have t1 : decide (X1 < Y) = true := decide_eq_true hxy
        have HN2 : Hid (∀ j (hj : j < L.length), k' ≤ j → x.1 < L[j].1) := Lib.hid (fun j hj hjk => by
          by_cases e : j = k'
          · subst e
            have := H1.out
            omega
          · exact HNo.out j hj (by omega))
        have HK := Lib.hid hk'
        clear q2 hY hlt hk' hxy
        go_wp2_with fail
        go_quiet (fail)
        go_wp2
        go_roundw
        case rel => exact ⟨k', by have := HK.out; omega, rfl, HN2.out, below_drewN HB.out nq⟩
        case measure => have := HK.out; (try simp [intOf]) <;> omega
      · have t1 : decide (X1 < Y) = false := decide_eq_false hxy
        have HE : Hid (k = 0 ∨ ∃ h : k - 1 < L.length, L[k - 1].1 ≤ x.1) := Lib.hid (.inr (by
          subst hk'
          refine ⟨hlt, ?_⟩
          have := H1.out
          simp only [Nat.add_sub_cancel]
          omega))
        clear q2 hY hlt hk' hxy hk
        go_wp2_with fail
        go_quiet (fail)
        go_wp2_with fail
        generalize hwq : wr.drewN nq = wq
        have HQ : Hid (Below (w.heap.size + 1) (w.alloc (.cells #[.int .i64 X1, .int .i64 X2] 135)) wq) := Lib.hid (by rw [← hwq]; exact below_drewN HB.out nq)
        clear hwq HB
        obtain ⟨cy0, cy1⟩ := CB.out _ (HQ.out.alloc (LE1 HQ.out) (Obj.cells #[] 135))
        have HZ : Hid (Below (w.heap.size + 1) (w.alloc (.cells #[.int .i64 X1, .int .i64 X2] 135)) ((wq.alloc (.cells #[] 135)).alloc (.cells #[.int .i64 X1, .int .i64 X2] 135)).drew) := Lib.hid ((HQ.out.alloc (LE1 HQ.out) _).alloc (LE1 (HQ.out.alloc (LE1 HQ.out) _)) _).drew
        have HZX : Hid (HeldS ((wq.alloc (.cells #[] 135)).alloc (.cells #[.int .i64 X1, .int .i64 X2] 135)).drew (some ⟨wq.heap.size + 1, 0, none⟩, bCells [x])) := Lib.hid (new_held wq _ x _ HCX.out)
        have HY : Hid (Below (w.heap.size + 1) (w.alloc (.cells #[.int .i64 X1, .int .i64 X2] 135)) (wq.alloc (.cells #[] 135)).drew) := Lib.hid (HQ.out.alloc (LE1 HQ.out) _).drew
        obtain ⟨cw0, cw1⟩ := CB.out _ HQ.out
        have HC0 : Hid (Below (w.heap.size + 1) (w.alloc (.cells #[.int .i64 X1, .int .i64 X2] 135)) ((wq.alloc (.cells #[.int .i64 X1, .int .i64 X2] 135)).alloc (.cells #[] 135)).drew) := Lib.hid ((HQ.out.alloc (LE1 HQ.out) _).alloc (LE1 (HQ.out.alloc (LE1 HQ.out) _)) _).drew
        have HCX0 : Hid (HeldS ((wq.alloc (.cells #[.int .i64 X1, .int .i64 X2] 135)).alloc (.cells #[] 135)).drew (some ⟨wq.heap.size, 0, none⟩, bCells [x])) := Lib.hid (new_held0 wq _ x _ HCX.out)
        go_region_law (first | ((refine step_app _ rfl (.tmp 23) (.tmp 26) 136 rfl (w.heap.size + 1) 135 i0 _ 2 16 Tryz.underlying136 hi0 hz0 hz1 hz2 rfl (by omega) (some ⟨wq.heap.size, 0, none⟩) 0 0 [] (by simp [Act.eval, Act.put]) (ownsRow_below (World.ownsRow_lit wq #[] 0 (LE1 HQ.out) (by decide) rfl) (Below.refl _ _).drew) A1 k ca (bCells (L.take k)) (by simp [Act.eval, Act.put]) LT.out (HR1.out.below (TW.out _ HY.out)) (bCells_one _) (by have := KM.out; unfold maxLen; omega) (by have := KM.out; omega) (LE1 HY.out) ?_); intro A3 k3 w3 hown3 hgr3 hb3; have HB3 : Hid (Below (w.heap.size + 1) (w.alloc (.cells #[.int .i64 X1, .int .i64 X2] 135)) w3) := Lib.hid (HY.out.trans hb3); obtain ⟨cx0, cx1⟩ := CB.out w3 HB3.out) | ((refine step_app _ rfl (.tmp 23) (.tmp 26) 136 rfl (w.heap.size + 1) 135 i0 _ 2 16 Tryz.underlying136 hi0 hz0 hz1 hz2 rfl (by omega) (some ⟨wq.heap.size, 0, none⟩) 0 0 [] (by simp [Act.eval, Act.put]) (ownsRow_below (World.ownsRow_lit wq #[] 0 (LE1 HQ.out) (by decide) rfl) ((Below.refl _ _).alloc (Nat.le_refl _) _).drew) A1 k ca (bCells (L.take k)) (by simp [Act.eval, Act.put]) LT.out (HR1.out.below (TW.out _ HZ.out)) (bCells_one _) (by have := KM.out; unfold maxLen; omega) (by have := KM.out; omega) (LE1 HZ.out) ?_); intro A3 k3 w3 hown3 hgr3 hb3; have HB3 : Hid (Below (w.heap.size + 1) (w.alloc (.cells #[.int .i64 X1, .int .i64 X2] 135)) w3) := Lib.hid (HZ.out.trans hb3); have HX3 : Hid (HeldS w3 (some ⟨wq.heap.size + 1, 0, none⟩, bCells [x])) := Lib.hid (HZX.out.grown hgr3 (fun _ a e => by cases e; exact Nat.succ_ne_self _))) | ((refine step_app _ rfl (.tmp 23) (.tmp 26) 136 rfl (w.heap.size + 1) 135 i0 _ 2 16 Tryz.underlying136 hi0 hz0 hz1 hz2 rfl (by omega) (some ⟨wq.heap.size + 1, 0, none⟩) 0 0 [] (by simp [Act.eval, Act.put]) (ownsRow_below (lit2 wq _ (LE1 HQ.out)) (Below.refl _ _).drew) A1 k ca (bCells (L.take k)) (by simp [Act.eval, Act.put]) LT.out (HR1.out.below (TW.out _ HC0.out)) (bCells_one _) (by have := KM.out; unfold maxLen; omega) (by have := KM.out; omega) (LE1 HC0.out) ?_); intro A3 k3 w3 hown3 hgr3 hb3; have HB3 : Hid (Below (w.heap.size + 1) (w.alloc (.cells #[.int .i64 X1, .int .i64 X2] 135)) w3) := Lib.hid (HC0.out.trans hb3); have HX3 : Hid (HeldS w3 (some ⟨wq.heap.size, 0, none⟩, bCells [x])) := Lib.hid (HCX0.out.grown hgr3 (fun _ a e => by cases e; exact (Nat.succ_ne_self _).symm))) | ((refine step_app _ rfl (.tmp 27) (.tmp 29) 136 rfl (w.heap.size + 1) 135 i0 _ 2 16 Tryz.underlying136 hi0 hz0 hz1 hz2 rfl (by omega) A3 (0 + k) k3 _ (by simp [Act.eval, Act.put]) (ownsRow_below hown3 ((Below.refl _ _).alloc (Nat.le_refl _) _)) (some ⟨w3.heap.size, 0, none⟩) 1 1 (bCells [x]) (by simp [Act.eval, Act.put]) (by rw [bCells_length]; rfl) (HCX.out ▸ SlR_new w3 _ _) (bCells_one _) (by have := KM.out; unfold maxLen; omega) (by have := KM.out; omega) (LE1 (HB3.out.alloc (LE1 HB3.out) _)) ?_); intro A4 k4 w4 hown4 hgr4 hb4; have HB4 : Hid (Below (w.heap.size + 1) (w.alloc (.cells #[.int .i64 X1, .int .i64 X2] 135)) w4) := Lib.hid ((HB3.out.alloc (LE1 HB3.out) _).trans hb4)) | ((refine step_app _ rfl (.tmp 27) (.tmp 29) 136 rfl (w.heap.size + 1) 135 i0 _ 2 16 Tryz.underlying136 hi0 hz0 hz1 hz2 rfl (by omega) A3 (0 + k) k3 _ (by simp [Act.eval, Act.put]) hown3 (some ⟨wq.heap.size + 1, 0, none⟩) 1 1 (bCells [x]) (by simp [Act.eval, Act.put]) (by rw [bCells_length]; rfl) HX3.out.sl (bCells_one _) (by have := KM.out; unfold maxLen; omega) (by have := KM.out; omega) (LE1 HB3.out) ?_); intro A4 k4 w4 hown4 hgr4 hb4; have HB4 : Hid (Below (w.heap.size + 1) (w.alloc (.cells #[.int .i64 X1, .int .i64 X2] 135)) w4) := Lib.hid (HB3.out.trans hb4)) | ((refine step_app _ rfl (.tmp 27) (.tmp 29) 136 rfl (w.heap.size + 1) 135 i0 _ 2 16 Tryz.underlying136 hi0 hz0 hz1 hz2 rfl (by omega) A3 (0 + k) k3 _ (by simp [Act.eval, Act.put]) hown3 (some ⟨wq.heap.size, 0, none⟩) 1 1 (bCells [x]) (by simp [Act.eval, Act.put]) (by rw [bCells_length]; rfl) HX3.out.sl (bCells_one _) (by have := KM.out; unfold maxLen; omega) (by have := KM.out; omega) (LE1 HB3.out) ?_); intro A4 k4 w4 hown4 hgr4 hb4; have HB4 : Hid (Below (w.heap.size + 1) (w.alloc (.cells #[.int .i64 X1, .int .i64 X2] 135)) w4) := Lib.hid (HB3.out.trans hb4)) | ((refine step_app _ rfl (.tmp 30) (.tmp 33) 136 rfl (w.heap.size + 1) 135 i0 _ 2 16 Tryz.underlying136 hi0 hz0 hz1 hz2 rfl (by omega) A4 (0 + k + 1) k4 _ (by simp [Act.eval, Act.put]) hown4 A2 (m - k) (ca - k) (bCells (L.drop k)) (by simp [Act.eval, Act.put]) LD.out (HR2.out.below (TW.out _ HB4.out)) (bCells_one _) (by have := KM.out; unfold maxLen; omega) (by have := KM.out; omega) (LE1 HB4.out) ?_); intro A5 k5 w5 hown5 hgr5 hb5))
        all_goals
          have HO : Hid (HeldS w5 (A5, bCells (L.take k ++ x :: L.drop k))) := Lib.hid (ownsRow_held (by rw [show L.take k ++ x :: L.drop k = (L.take k ++ [x]) ++ L.drop k by simp, bCells_app, bCells_app]; exact hown5))
          have HFR : Hid (∀ a, A5 = some a → w.heap.size ≤ a.block) := Lib.hid (fun a e => Nat.le_trans (Nat.le_succ _) (ownsRow_fresh hown5 a e))
          have HBE : Hid (Below w.heap.size w w5) := Lib.hid (TW.out _ (HB4.out.trans hb5))
          have HC : Hid (0 + k + 1 + (m - k) = m + 1 ∧ m + 1 ≤ k5) := Lib.hid (by have := ownsRow_le hown5; have := KM.out; omega)
          have HP : Hid (PutR L x (L.take k ++ x :: L.drop k)) := Lib.hid ⟨k, by have := KM.out; have := HM.out; omega, rfl, HNo.out, HE.out⟩
          clear hown3 hgr3 hb3 hown4 hgr4 hb4 hown5 hgr5 hb5
          go_wp2
          go_ret
          exact ⟨A5, k5, _, (by have hq := HC.out.1; first | exact Eq.trans (b := .returned (.slice A5 (0 + k + 1 + (m - k)) k5)) rfl (by rw [hq]) | exact Eq.trans (b := .returned (.slice A5 (k + 1 + (m - k)) k5)) rfl (by rw [Nat.zero_add] at hq; rw [hq])), HC.out.2, HP.out, HO.out, HFR.out, HBE.out⟩
    · have i1 : ¬ ((0 : Int) < (k : Int)) := by omega
      have kb : decide (0 < k) = false := decide_eq_false hk0
      have HE : Hid (k = 0 ∨ ∃ h : k - 1 < L.length, L[k - 1].1 ≤ x.1) := Lib.hid (.inl (by omega))
      clear hk hk0
      go_wp2_with fail
      go_quiet (fail)
      go_wp2_with fail
      generalize hwq : wr.drewN nq = wq
      have HQ : Hid (Below (w.heap.size + 1) (w.alloc (.cells #[.int .i64 X1, .int .i64 X2] 135)) wq) := Lib.hid (by rw [← hwq]; exact below_drewN HB.out nq)
      clear hwq HB
      obtain ⟨cy0, cy1⟩ := CB.out _ (HQ.out.alloc (LE1 HQ.out) (Obj.cells #[] 135))
      have HZ : Hid (Below (w.heap.size + 1) (w.alloc (.cells #[.int .i64 X1, .int .i64 X2] 135)) ((wq.alloc (.cells #[] 135)).alloc (.cells #[.int .i64 X1, .int .i64 X2] 135)).drew) := Lib.hid ((HQ.out.alloc (LE1 HQ.out) _).alloc (LE1 (HQ.out.alloc (LE1 HQ.out) _)) _).drew
      have HZX : Hid (HeldS ((wq.alloc (.cells #[] 135)).alloc (.cells #[.int .i64 X1, .int .i64 X2] 135)).drew (some ⟨wq.heap.size + 1, 0, none⟩, bCells [x])) := Lib.hid (new_held wq _ x _ HCX.out)
      have HY : Hid (Below (w.heap.size + 1) (w.alloc (.cells #[.int .i64 X1, .int .i64 X2] 135)) (wq.alloc (.cells #[] 135)).drew) := Lib.hid (HQ.out.alloc (LE1 HQ.out) _).drew
      obtain ⟨cw0, cw1⟩ := CB.out _ HQ.out
      have HC0 : Hid (Below (w.heap.size + 1) (w.alloc (.cells #[.int .i64 X1, .int .i64 X2] 135)) ((wq.alloc (.cells #[.int .i64 X1, .int .i64 X2] 135)).alloc (.cells #[] 135)).drew) := Lib.hid ((HQ.out.alloc (LE1 HQ.out) _).alloc (LE1 (HQ.out.alloc (LE1 HQ.out) _)) _).drew
      have HCX0 : Hid (HeldS ((wq.alloc (.cells #[.int .i64 X1, .int .i64 X2] 135)).alloc (.cells #[] 135)).drew (some ⟨wq.heap.size, 0, none⟩, bCells [x])) := Lib.hid (new_held0 wq _ x _ HCX.out)
      go_region_law (first | ((refine step_app _ rfl (.tmp 23) (.tmp 26) 136 rfl (w.heap.size + 1) 135 i0 _ 2 16 Tryz.underlying136 hi0 hz0 hz1 hz2 rfl (by omega) (some ⟨wq.heap.size, 0, none⟩) 0 0 [] (by simp [Act.eval, Act.put]) (ownsRow_below (World.ownsRow_lit wq #[] 0 (LE1 HQ.out) (by decide) rfl) (Below.refl _ _).drew) A1 k ca (bCells (L.take k)) (by simp [Act.eval, Act.put]) LT.out (HR1.out.below (TW.out _ HY.out)) (bCells_one _) (by have := KM.out; unfold maxLen; omega) (by have := KM.out; omega) (LE1 HY.out) ?_); intro A3 k3 w3 hown3 hgr3 hb3; have HB3 : Hid (Below (w.heap.size + 1) (w.alloc (.cells #[.int .i64 X1, .int .i64 X2] 135)) w3) := Lib.hid (HY.out.trans hb3); obtain ⟨cx0, cx1⟩ := CB.out w3 HB3.out) | ((refine step_app _ rfl (.tmp 23) (.tmp 26) 136 rfl (w.heap.size + 1) 135 i0 _ 2 16 Tryz.underlying136 hi0 hz0 hz1 hz2 rfl (by omega) (some ⟨wq.heap.size, 0, none⟩) 0 0 [] (by simp [Act.eval, Act.put]) (ownsRow_below (World.ownsRow_lit wq #[] 0 (LE1 HQ.out) (by decide) rfl) ((Below.refl _ _).alloc (Nat.le_refl _) _).drew) A1 k ca (bCells (L.take k)) (by simp [Act.eval, Act.put]) LT.out (HR1.out.below (TW.out _ HZ.out)) (bCells_one _) (by have := KM.out; unfold maxLen; omega) (by have := KM.out; omega) (LE1 HZ.out) ?_); intro A3 k3 w3 hown3 hgr3 hb3; have HB3 : Hid (Below (w.heap.size + 1) (w.alloc (.cells #[.int .i64 X1, .int .i64 X2] 135)) w3) := Lib.hid (HZ.out.trans hb3); have HX3 : Hid (HeldS w3 (some ⟨wq.heap.size + 1, 0, none⟩, bCells [x])) := Lib.hid (HZX.out.grown hgr3 (fun _ a e => by cases e; exact Nat.succ_ne_self _))) | ((refine step_app _ rfl (.tmp 23) (.tmp 26) 136 rfl (w.heap.size + 1) 135 i0 _ 2 16 Tryz.underlying136 hi0 hz0 hz1 hz2 rfl (by omega) (some ⟨wq.heap.size + 1, 0, none⟩) 0 0 [] (by simp [Act.eval, Act.put]) (ownsRow_below (lit2 wq _ (LE1 HQ.out)) (Below.refl _ _).drew) A1 k ca (bCells (L.take k)) (by simp [Act.eval, Act.put]) LT.out (HR1.out.below (TW.out _ HC0.out)) (bCells_one _) (by have := KM.out; unfold maxLen; omega) (by have := KM.out; omega) (LE1 HC0.out) ?_); intro A3 k3 w3 hown3 hgr3 hb3; have HB3 : Hid (Below (w.heap.size + 1) (w.alloc (.cells #[.int .i64 X1, .int .i64 X2] 135)) w3) := Lib.hid (HC0.out.trans hb3); have HX3 : Hid (HeldS w3 (some ⟨wq.heap.size, 0, none⟩, bCells [x])) := Lib.hid (HCX0.out.grown hgr3 (fun _ a e => by cases e; exact (Nat.succ_ne_self _).symm))) | ((refine step_app _ rfl (.tmp 27) (.tmp 29) 136 rfl (w.heap.size + 1) 135 i0 _ 2 16 Tryz.underlying136 hi0 hz0 hz1 hz2 rfl (by omega) A3 (0 + k) k3 _ (by simp [Act.eval, Act.put]) (ownsRow_below hown3 ((Below.refl _ _).alloc (Nat.le_refl _) _)) (some ⟨w3.heap.size, 0, none⟩) 1 1 (bCells [x]) (by simp [Act.eval, Act.put]) (by rw [bCells_length]; rfl) (HCX.out ▸ SlR_new w3 _ _) (bCells_one _) (by have := KM.out; unfold maxLen; omega) (by have := KM.out; omega) (LE1 (HB3.out.alloc (LE1 HB3.out) _)) ?_); intro A4 k4 w4 hown4 hgr4 hb4; have HB4 : Hid (Below (w.heap.size + 1) (w.alloc (.cells #[.int .i64 X1, .int .i64 X2] 135)) w4) := Lib.hid ((HB3.out.alloc (LE1 HB3.out) _).trans hb4)) | ((refine step_app _ rfl (.tmp 27) (.tmp 29) 136 rfl (w.heap.size + 1) 135 i0 _ 2 16 Tryz.underlying136 hi0 hz0 hz1 hz2 rfl (by omega) A3 (0 + k) k3 _ (by simp [Act.eval, Act.put]) hown3 (some ⟨wq.heap.size + 1, 0, none⟩) 1 1 (bCells [x]) (by simp [Act.eval, Act.put]) (by rw [bCells_length]; rfl) HX3.out.sl (bCells_one _) (by have := KM.out; unfold maxLen; omega) (by have := KM.out; omega) (LE1 HB3.out) ?_); intro A4 k4 w4 hown4 hgr4 hb4; have HB4 : Hid (Below (w.heap.size + 1) (w.alloc (.cells #[.int .i64 X1, .int .i64 X2] 135)) w4) := Lib.hid (HB3.out.trans hb4)) | ((refine step_app _ rfl (.tmp 27) (.tmp 29) 136 rfl (w.heap.size + 1) 135 i0 _ 2 16 Tryz.underlying136 hi0 hz0 hz1 hz2 rfl (by omega) A3 (0 + k) k3 _ (by simp [Act.eval, Act.put]) hown3 (some ⟨wq.heap.size, 0, none⟩) 1 1 (bCells [x]) (by simp [Act.eval, Act.put]) (by rw [bCells_length]; rfl) HX3.out.sl (bCells_one _) (by have := KM.out; unfold maxLen; omega) (by have := KM.out; omega) (LE1 HB3.out) ?_); intro A4 k4 w4 hown4 hgr4 hb4; have HB4 : Hid (Below (w.heap.size + 1) (w.alloc (.cells #[.int .i64 X1, .int .i64 X2] 135)) w4) := Lib.hid (HB3.out.trans hb4)) | ((refine step_app _ rfl (.tmp 30) (.tmp 33) 136 rfl (w.heap.size + 1) 135 i0 _ 2 16 Tryz.underlying136 hi0 hz0 hz1 hz2 rfl (by omega) A4 (0 + k + 1) k4 _ (by simp [Act.eval, Act.put]) hown4 A2 (m - k) (ca - k) (bCells (L.drop k)) (by simp [Act.eval, Act.put]) LD.out (HR2.out.below (TW.out _ HB4.out)) (bCells_one _) (by have := KM.out; unfold maxLen; omega) (by have := KM.out; omega) (LE1 HB4.out) ?_); intro A5 k5 w5 hown5 hgr5 hb5))
      all_goals
        have HO : Hid (HeldS w5 (A5, bCells (L.take k ++ x :: L.drop k))) := Lib.hid (ownsRow_held (by rw [show L.take k ++ x :: L.drop k = (L.take k ++ [x]) ++ L.drop k by simp, bCells_app, bCells_app]; exact hown5))
        have HFR : Hid (∀ a, A5 = some a → w.heap.size ≤ a.block) := Lib.hid (fun a e => Nat.le_trans (Nat.le_succ _) (ownsRow_fresh hown5 a e))
        have HBE : Hid (Below w.heap.size w w5) := Lib.hid (TW.out _ (HB4.out.trans hb5))
        have HC : Hid (0 + k + 1 + (m - k) = m + 1 ∧ m + 1 ≤ k5) := Lib.hid (by have := ownsRow_le hown5; have := KM.out; omega)
        have HP : Hid (PutR L x (L.take k ++ x :: L.drop k)) := Lib.hid ⟨k, by have := KM.out; have := HM.out; omega, rfl, HNo.out, HE.out⟩
        clear hown3 hgr3 hb3 hown4 hgr4 hb4 hown5 hgr5 hb5
        go_wp2
        go_ret
        exact ⟨A5, k5, _, (by have hq := HC.out.1; first | exact Eq.trans (b := .returned (.slice A5 (0 + k + 1 + (m - k)) k5)) rfl (by rw [hq]) | exact Eq.trans (b := .returned (.slice A5 (k + 1 + (m - k)) k5)) rfl (by rw [Nat.zero_add] at hq; rw [hq])), HC.out.2, HP.out, HO.out, HFR.out, HBE.out⟩
end Go.Proofs.YtflkoabgkgegjaaGreatDoor
/- The reference's Order, Left, New. Condition: its row is read. -/
namespace Go.Proofs.YtflkoabgkgegjaaGreatDoor
open Go.RowKit

theorem rb_new (w : World) (top : Nat) (cs ds : Array Value) (hc : cs.toList = bCells [(0, top)]) (hd : ds.toList = [.int .i64 (top : Int), .slice (some ⟨w.heap.size, 0, none⟩) 1 1, .slice none 0 0]) : RB ((w.alloc (.cells cs 135)).alloc (.cells ds 138)) (w.heap.size + 1) top (some ⟨w.heap.size, 0, none⟩) 1 [(0, top)] none 0 [] := by
  have h1 := heap_alloc_new (w.alloc (.cells cs 135)) (.cells ds 138)
  rw [World.size_alloc] at h1
  have h2 := (((Below.refl _ (w.alloc (.cells cs 135))).alloc (Nat.le_refl _) (.cells ds 138)).block w.heap.size (by rw [World.size_alloc]; omega)).trans (heap_alloc_new w (.cells cs 135))
  refine ⟨fun _ => ⟨_, 0, _, _, rfl, h1, ⟨by decide, rfl⟩, fun j u hu => ?_⟩, fun _ => ⟨_, 0, _, _, rfl, h2, ⟨by decide, (tyOf_bCells _).symm⟩, fun j u hu => ?_⟩, HeldS.nil _ _, Nat.le_refl _, Nat.le_refl _⟩
  · rw [Nat.zero_add, ← Array.getElem?_toList, hd]
    exact hu
  · rw [Nat.zero_add, ← Array.getElem?_toList, hc]
    exact hu
theorem rnew_any (N top : Nat) (NN : Int) (hNN : NN = (N : Int)) (hN : N = 1024 * 2 ^ top) (ht : top ≤ 20) (w : World) : Calls Tryz.prog 44 #[.int .i64 NN] w fun e w' => ∃ g A1 c1 A2 c2, e = .returned (.pointer (some ⟨g, 0, none⟩)) ∧ w.heap.size ≤ g ∧ RB w' g top A1 c1 [(0, top)] A2 c2 [] ∧ Below w.heap.size w w' := by
  have HNN := Lib.hid hNN
  have HN := Lib.hid hN
  have HT := Lib.hid ht
  clear hNN hN ht
  go_enter Tryz.func44, Tryz.ntmps44
  go_wp2
  go_loopw [3] (fun i wr => ∃ k : Nat, k ≤ top ∧ i = .int .i64 (k : Int) ∧ wr = w) (fun i _ => top - (intOf i).toNat)
  case atStart => exact ⟨0, Nat.zero_le _, rfl, rfl⟩
  case round =>
    obtain ⟨k, hk, rfl, rfl⟩ := hrel
    obtain ⟨K, hK⟩ : ∃ K : Int, (k : Int) = K := ⟨_, rfl⟩
    have HK := Lib.hid hK
    have HKT := Lib.hid hk
    rw [hK]
    clear hK hk
    go_wp2_with fail
    refine (size_r k (Nat.le_trans HKT.out HT.out) K HK.out.symm _).mono ?_
    rintro e w' ⟨rfl, rfl⟩
    obtain ⟨Z, hZ⟩ : ∃ Z : Int, ((1024 * 2 ^ k : Nat) : Int) = Z := ⟨_, rfl⟩
    rw [hZ]
    by_cases q : k < top
    · have t1 : decide (Z < NN) = true := decide_eq_true (by
        rw [HNN.out, HN.out, ← hZ]
        have : 2 ^ k < 2 ^ top := Nat.pow_lt_pow_right (by omega) q
        omega)
      have zk : IntKind.i64.wrap (K + 1) = K + 1 := by rw [IntKind.wrap_i64]; have := HK.out; have := HT.out; omega
      have Q := Lib.hid q
      clear hZ q
      go_wp2
      go_roundw
      case rel => exact ⟨k + 1, Q.out, by rw [← HK.out]; go_num, by first | rfl | trivial⟩
      case measure => have := HK.out; have := Q.out; (try simp [intOf]) <;> omega
    · have e : k = top := by have := HKT.out; omega
      have t1 : decide (Z < NN) = false := decide_eq_false (by
        rw [HNN.out, HN.out, ← hZ, e]
        omega)
      have HE := Lib.hid e
      clear hZ q e
      go_wp2
      go_ret
      exact ⟨w'.heap.size + 1, some ⟨w'.heap.size, 0, none⟩, 1, none, 0, rfl, Nat.le_succ _, rb_new w' top _ _ (by rw [← HK.out, HE.out]; rfl) (by rw [← HK.out, HE.out]), ((Below.refl _ _).alloc (Nat.le_refl _) _).alloc (by simp) _⟩
end Go.Proofs.YtflkoabgkgegjaaGreatDoor
