/- The contract of the reference's Decode. Condition: the words are 64 bits wide. -/
import Derived.Test.YtmjkljgccaipoaaDoorG5
import Derived.Deep.RegionLaw
namespace Go.Proofs.YtmjkljgccaipoaaDoor
open Go.RowKit

theorem ref_pre (w : World) (c0 : Cal) (W : World) (hW : W = (w.alloc (.cells #[.int .i64 0, .int .i64 0, .int .i64 0, .int .i64 0, .int .i64 0, .bool false, .int .u64 0, .slice none 0 0, .slice none 0 0] 26)).alloc (.cells #[.int .i64 c0.op, .int .i64 c0.slot, .int .i64 c0.a, .int .i64 c0.b, .int .i64 c0.c, .bool c0.flag, .int .u64 (c0.x : Int), .slice none 0 0, .slice none 0 0] 26)) :
    W.heap[w.heap.size + 1]? = some (.cells (callV c0 none 0 0 none 0 0) 26 (0, 0)) ∧ W.heap[w.heap.size]? = some (.cells zeroV 26 (0, 0)) ∧ Below w.heap.size w W ∧ w.heap.size + 2 ≤ W.heap.size := by
  subst hW
  have e1 := heap_alloc_new (w.alloc (.cells zeroV 26)) (.cells (callV c0 none 0 0 none 0 0) 26)
  rw [World.size_alloc] at e1
  have e2 := (Below.heap_alloc (w.alloc (.cells zeroV 26)) (.cells (callV c0 none 0 0 none 0 0) 26) w.heap.size (by simp)).trans (heap_alloc_new w (.cells zeroV 26))
  have e3 := (((Below.refl w.heap.size w).alloc (Nat.le_refl _) (.cells zeroV 26)).alloc (by simp) (.cells (callV c0 none 0 0 none 0 0) 26))
  have e4 : w.heap.size + 2 ≤ ((w.alloc (.cells zeroV 26)).alloc (.cells (callV c0 none 0 0 none 0 0) 26)).heap.size := by simp
  exact ⟨e1, e2, e3, e4⟩

theorem enc21_len (c : Cal) (l : List Nat) (hl : encC c = l) (n : Nat) (hn : l.length = n) (lw li : Nat) (hw : lw = c.words.length) (hi : li = c.items.length) (A B : Option Addr) (cw ci : Nat) (w : World) (h : CallR w c A B) :
    Calls Tryd.prog 16 #[.agg #[.int .i64 c.op, .int .i64 c.slot, .int .i64 c.a, .int .i64 c.b, .int .i64 c.c, .bool c.flag, .int .u64 (c.x : Int), .slice A lw cw, .slice B li ci]] w
      fun e w' => ∃ (Z : Option Addr) (k : Nat), e = .returned (.slice Z n k) ∧ n ≤ k ∧ SlR w' Z (u64s l) ∧ Below w.heap.size w w' := by
  subst hl hn hw hi
  exact enc21_any c A B cw ci w h

theorem ref_r1 {w wr w5 : World} {c0 : Cal} {A' A5 : Option Addr} {k cap' k5 : Nat} {xs : List Value} {o : Obj}
    (hkr : wr.heap[w.heap.size + 1]? = some (.cells (callV c0 A' k cap' none 0 0) 26 (0, 0))) (hk0 : wr.heap[w.heap.size]? = some (.cells zeroV 26 (0, 0))) (hbr : Below w.heap.size w wr) (hsz : w.heap.size + 2 ≤ wr.heap.size)
    (hb5 : Below (w.heap.size + 2) (wr.drew.alloc o) w5) (hown5 : w5.ownsRow (w.heap.size + 2) 22 1 (.slice A5 (k + 1) k5) (k + 1) xs) :
    (w5.setCell ⟨w.heap.size + 1, 7, none⟩ (.slice A5 (k + 1) k5)).heap[w.heap.size + 1]? = some (.cells (callV c0 A5 (k + 1) k5 none 0 0) 26 (0, 0)) ∧ (w5.setCell ⟨w.heap.size + 1, 7, none⟩ (.slice A5 (k + 1) k5)).ownsRow (w.heap.size + 2) 22 1 (.slice A5 (k + 1) k5) (k + 1) xs ∧
      (w5.setCell ⟨w.heap.size + 1, 7, none⟩ (.slice A5 (k + 1) k5)).heap[w.heap.size]? = some (.cells zeroV 26 (0, 0)) ∧ Below w.heap.size w (w5.setCell ⟨w.heap.size + 1, 7, none⟩ (.slice A5 (k + 1) k5)) ∧ w.heap.size + 2 ≤ (w5.setCell ⟨w.heap.size + 1, 7, none⟩ (.slice A5 (k + 1) k5)).heap.size := by
  have a1 : ∀ j, j < w.heap.size + 2 → w5.heap[j]? = wr.heap[j]? := fun j hj => (hb5.block j hj).trans (Below.heap_alloc wr.drew o j (by show j < wr.heap.size; omega))
  have hs5 : w.heap.size + 2 ≤ w5.heap.size := by have := hb5.size; simp at this; omega
  have hb : Below w.heap.size w w5 := (hbr.drew.alloc (by show w.heap.size ≤ wr.heap.size; omega) o).trans (hb5.mono (by omega))
  refine ⟨heap_setCell_same w5 _ 7 (callV c0 A' k cap' none 0 0) 26 _ ((a1 _ (by omega)).trans hkr), ownsRow_setCell_below hown5 (show w.heap.size + 1 < w.heap.size + 2 by omega) _, ?_, setAt hb (by omega) _, by simpa [World.setCell] using hs5⟩
  exact (Below.heap_setCell w5 _ _ _ (by simp)).trans ((a1 _ (by omega)).trans hk0)

set_option maxRecDepth 100000 in
set_option maxHeartbeats 6400000 in
theorem ref_main (x0 : Nat) (rest : List Nat) (c0 : Cal) (n nW nI : Nat) (b off cap : Nat) (w : World) (hx0 : x0 < 18446744073709551616) (hn : Hid (n = 2 + nW + nI)) (h2 : 2 ≤ n) (h12 : n ≤ 12)
    (fs : (x0 : Int) % 256 = c0.slot) (fo : (x0 : Int) / 256 % 256 = c0.op) (fn : (x0 : Int) / 65536 % 16 = (nW : Int)) (fk : (x0 : Int) / 1048576 % 4 = (nI : Int)) (ff : ((x0 : Int) / 4194304 % 2 == 1) = c0.flag) (fa : (x0 : Int) / 4194304 / 4 % 256 = c0.a) (fb : (x0 : Int) / 4194304 / 4 / 256 % 256 = c0.b) (fc : (x0 : Int) / 4194304 / 4 / 65536 % 2097152 = c0.c)
    (hcW : Hid (c0.words = rest.take nW)) (hcI : Hid (c0.items = (rest.drop nW).map itemOf)) (hRx : Hid (∀ x ∈ rest, x < 18446744073709551616)) (hrl : Hid (rest.length = nW + nI))
    (HD : Hid (decC (x0 :: c0.x :: rest) = if (rest.drop nW).all itemOk && mayC c0 && decide (headC c0 = x0) then some c0 else none))
    (hbb : b < w.heap.size) (v0 : w.cell? ⟨b, off, none⟩ = some (.int .u64 (x0 : Int))) (v1 : w.cell? ⟨b, off + 1, none⟩ = some (.int .u64 (c0.x : Int))) (vr : Hid (∀ j (hj : j < rest.length), w.cell? ⟨b, off + (2 + j), none⟩ = some (.int .u64 ((rest[j] : Nat) : Int)))) :
    Calls Tryd.prog 18 #[.slice (some ⟨b, off, none⟩) n cap] w (DecPost w (x0 :: c0.x :: rest)) := by
  obtain ⟨i0, hi0, hz0, hz1, hz2⟩ := info_parts info_u64
  have j0 : (0 : Int) < (n : Int) := by omega
  have j1 : (1 : Int) < (n : Int) := by omega
  have j2 : (2 : Int) ≤ (n : Int) := by omega
  have j3 : decide ((n : Int) < 2) = false := by simp; omega
  have j4 : (n : Int) ≤ 12 := by omega
  have j5 : decide ((12 : Int) < (n : Int)) = false := by simp; omega
  have n0 : 0 < n := by omega
  have n1 : 1 < n := by omega
  have t0 : ((nW : Int) + (nI : Int) + 2 != (n : Int)) = false := by have := hn.out; simp; omega
  have hnW : nW ≤ 10 := by have := hn.out; omega
  have hnI : nI ≤ 10 := by have := hn.out; omega
  go_enter Tryd.func18, Tryd.ntmps18
  go_wp2_with fail
  go_loopw [8] (fun i wr => ∃ (k : Nat) (A' : Option Addr) (cap' : Nat), k ≤ nW ∧ i = .int .i64 k ∧ wr.heap[w.heap.size + 1]? = some (.cells (callV c0 A' k cap' none 0 0) 26 (0, 0)) ∧
      wr.ownsRow (w.heap.size + 2) 22 1 (.slice A' k cap') k (u64s (rest.take k)) ∧ wr.heap[w.heap.size]? = some (.cells zeroV 26 (0, 0)) ∧ Below w.heap.size w wr ∧ w.heap.size + 2 ≤ wr.heap.size) (fun i _ => nW - (intOf i).toNat)
  case atStart =>
    obtain ⟨p1, p2, p3, p4⟩ := ref_pre w c0 _ rfl
    exact ⟨0, none, 0, Nat.zero_le _, rfl, p1, World.ownsRow_nil _ _ _ _, p2, p3, p4⟩
  case round =>
    obtain ⟨k, A', cap', hk, rfl, hkr, hownr, hk0r, hbr, hsz⟩ := hrel
    clear fs fo fn fk ff fa fb fc
    have Hkr := Lib.hid hkr
    have Hownr := Lib.hid hownr
    have Hk0r := Lib.hid hk0r
    have Hbr := Lib.hid hbr
    clear hownr hk0r hbr
    by_cases hlt : k < nW
    · have hkr' : k < rest.length := by rw [hrl.out]; omega
      have s1 : IntKind.i64.wrap (2 + (k : Int)) = 2 + (k : Int) := by rw [IntKind.wrap_i64]; omega
      have s2 : (2 + (k : Int)) < (n : Int) := by have := hn.out; omega
      have s3 : (0 : Int) ≤ 2 + (k : Int) := by omega
      have vk : wr.cell? ⟨b, off + (2 + k), none⟩ = some (.int .u64 ((rest[k] : Nat) : Int)) := (Hbr.out.cell (p := ⟨b, off + (2 + k), none⟩) hbb).trans (vr.out k hkr')
      have vw : wr.cell? ⟨w.heap.size + 1, 7, none⟩ = some (.slice A' k cap') := cell_of_row wr _ 7 _ _ _ hkr
      have hzz : w.heap.size + 1 < wr.heap.size := by omega
      have s4 : (2 + (k : Int)).toNat = 2 + k := by omega
      clear hkr
      go_wp2_with fail
      go_region_law (first | (refine step_app _ rfl (.tmp 80) (.tmp 86) 23 rfl (w.heap.size + 2) 22 i0 _ 1 8 Tryd.underlying23 hi0 hz0 hz1 hz2 rfl (by omega) A' k cap' (u64s (rest.take k)) (by simp [Act.eval, Act.put]) ((ownsRow_below (w' := wr.drew) Hownr.out (Below.refl _ _).drew).alloc _) _ 1 1 (u64s [rest[k]]) (by simp [Act.eval, Act.put]) rfl (SlR_new _ _ _) (u64s_one _) (by unfold maxLen; omega) (by omega) (by simp; omega) ?_; intro A5 k5 w5 hown5 hgr5 hb5; have hc5 : w5.cell? ⟨w.heap.size + 1, 7, none⟩ = some (.slice A' k cap') := (hb5.cell (p := ⟨w.heap.size + 1, 7, none⟩) (by show w.heap.size + 1 < w.heap.size + 2; omega)).trans ((World.cell?_alloc_lt _ _ ⟨w.heap.size + 1, 7, none⟩ hzz).trans vw); have hf5 : w5.frozen? ⟨w.heap.size + 1, 7, none⟩ = false := frozen_of_row w5 _ 7 _ _ ((hb5.block _ (by omega)).trans ((Below.heap_alloc wr.drew _ _ hzz).trans Hkr.out))))
      all_goals (obtain ⟨r1, r2, r3, r4, r5⟩ := ref_r1 Hkr.out Hk0r.out Hbr.out hsz hb5 (by have h := hown5; rw [← u64s_append, ← List.take_succ_eq_append_getElem hkr'] at h; exact h))
      all_goals (go_wp2; go_roundw; (case rel => exact ⟨k + 1, A5, k5, by omega, by go_num, r1, r2, r3, r4, r5⟩); (case measure => simp [intOf]; omega))
    · have hkn : k = nW := by omega
      subst hkn
      have hw0 : Hid (rest.take k = c0.words) := Lib.hid (by rw [hcW.out])
      have hlenW : Hid (k = c0.words.length) := Lib.hid (by rw [hcW.out, List.length_take, hrl.out]; omega)
      have hg1 : w.heap.size + 1 < wr.heap.size := by omega
      clear hkr hlt hk
      obtain ⟨i5, hi5, hy0, hy1, hy2⟩ := info_parts info_item
      go_wp2_with fail
      rename World => wa
      have v7 := v0
      clear v0 v1
      go_loopw [9] (fun i wr => ∃ (j : Nat) (B' : Option Addr) (ci' : Nat), j ≤ nI ∧ i = .int .i64 j ∧ wr.heap[w.heap.size + 1]? = some (.cells (callV c0 A' k cap' B' j ci') 26 (0, 0)) ∧
          wr.ownsRow wa.heap.size 54 5 (.slice B' j ci') j (itemCells (((rest.drop k).take j).map itemOf)) ∧ wa.grownBy wr (some (w.heap.size + 1)) ∧ ((rest.drop k).take j).all itemOk = true) (fun i _ => nI - (intOf i).toNat)
      case atStart => exact ⟨0, none, 0, Nat.zero_le _, rfl, Hkr.out, World.ownsRow_nil _ _ _ _, World.grownBy.refl _ _, rfl⟩
      case round =>
        obtain ⟨j, B', ci', hj, rfl, hkx, hownx, hgx, hall⟩ := hrel
        have hbx : Below w.heap.size w wr := Hbr.out.trans (grownBy_below hgx (by omega) (by omega))
        have hgx7 : w.heap.size + 1 < wr.heap.size := heap_lt7 hkx
        have Hkx := Lib.hid hkx
        have Hownx := Lib.hid hownx
        have Hgx := Lib.hid hgx
        have Hall := Lib.hid hall
        have Hbx := Lib.hid hbx
        have hkx0 : wr.heap[w.heap.size]? = some (.cells zeroV 26 (0, 0)) := (hgx.block _ (by omega) (fun e => by injection e with e; omega)).trans Hk0r.out
        have Hkx0 := Lib.hid hkx0
        clear hkx hownx hgx hall hbx hkx0
        by_cases hlt : j < nI
        · have hjr : k + j < rest.length := by rw [hrl.out]; omega
          have hjd : j < (rest.drop k).length := by rw [List.length_drop]; omega
          have s1 : IntKind.i64.wrap (2 + (k : Int)) = 2 + (k : Int) := by rw [IntKind.wrap_i64]; omega
          have s2 : IntKind.i64.wrap (2 + (k : Int) + (j : Int)) = 2 + (k : Int) + (j : Int) := by rw [IntKind.wrap_i64]; omega
          have s3 : (2 + (k : Int) + (j : Int)) < (n : Int) := by have := hn.out; omega
          have s5 : (0 : Int) ≤ 2 + (k : Int) + (j : Int) := by omega
          have s4 : (2 + (k : Int) + (j : Int)).toNat = 2 + (k + j) := by omega
          have vx : wr.cell? ⟨b, off + (2 + (k + j)), none⟩ = some (.int .u64 ((rest[k + j] : Nat) : Int)) := (Hbx.out.cell (p := ⟨b, off + (2 + (k + j)), none⟩) hbb).trans (vr.out (k + j) hjr)
          have hRk := hRx.out rest[k + j] (List.getElem_mem hjr)
          have hget : Hid ((rest.drop k)[j] = rest[k + j]) := Lib.hid (by simp)
          by_cases hok : itemOk rest[k + j] = true
          · have Hok := Lib.hid hok
            clear hok
            go_wp2_with (first | (go_at_call 32; refine (Item14_yes rest[k + j] _ hRk Hok.out).mono ?_; rintro e w4 ⟨rfl, hb4⟩; have e8 : w4.cell? ⟨w.heap.size + 1, 8, none⟩ = some (.slice B' j ci') := (hb4.cell (p := ⟨w.heap.size + 1, 8, none⟩) hgx7).trans (cell_of_row wr (w.heap.size + 1) 8 _ _ _ Hkx.out); have hz4 : w.heap.size + 1 < w4.heap.size := Nat.lt_of_lt_of_le hgx7 hb4.size; have hz9 : wa.heap.size ≤ w4.heap.size := Nat.le_trans Hgx.out.size hb4.size) | (at_builtin; refine wpList_app _ rfl (.tmp 109) (.tmp 111) 24 rfl wa.heap.size 54 i5 _ 5 40 Tryd.underlying24 hi5 hy0 hy1 hy2 rfl (by omega) _ _ _ _ rfl (((ownsRow_below Hownx.out hb4).alloc _).alloc _) _ 1 1 (itemCells [itemOf rest[k + j]]) rfl rfl (SlR_new2 _ _ _ _) (itemCells_one _) (by unfold maxLen; omega) (by omega) (by simp; omega) ?_; intro A5 k5 w5 hown5 hgr5 hb5; have f1 : w5.cell? ⟨w.heap.size + 1, 8, none⟩ = some (.slice B' j ci') := (hb5.cell (p := ⟨w.heap.size + 1, 8, none⟩) hg1).trans ((World.cell?_alloc_lt _ _ ⟨w.heap.size + 1, 8, none⟩ (by simp; omega)).trans ((World.cell?_alloc_lt _ _ ⟨w.heap.size + 1, 8, none⟩ hz4).trans e8)); have hk5 : w5.heap[w.heap.size + 1]? = some (.cells (callV c0 A' k cap' B' j ci') 26 (0, 0)) := (hb5.block (w.heap.size + 1) hg1).trans ((Below.heap_alloc _ _ _ (by simp; omega)).trans ((Below.heap_alloc _ _ _ hz4).trans ((hb4.block (w.heap.size + 1) hgx7).trans Hkx.out))); have f2 : w5.frozen? ⟨w.heap.size + 1, 8, none⟩ = false := frozen_of_row w5 (w.heap.size + 1) 8 _ _ hk5; have Hk5 := Lib.hid hk5; clear hk5))
            have hown7 : w5.ownsRow wa.heap.size 54 5 (.slice A5 (j + 1) k5) (j + 1) (itemCells (((rest.drop k).take (j + 1)).map itemOf)) := by
              rw [List.take_succ_eq_append_getElem hjd, List.map_append, itemCells_append, hget.out]
              exact hown5
            have hgr9 : wa.grownBy w5 (some (w.heap.size + 1)) := gb_step (gb_step (gb_step Hgx.out (hb4.mono Hgx.out.size)) (((Below.refl _ _).alloc hz9 _).alloc (by simp; omega) _)) hb5
            have hk9 : (w5.setCell ⟨w.heap.size + 1, 8, none⟩ (.slice A5 (j + 1) k5)).heap[w.heap.size + 1]? = some (.cells (callV c0 A' k cap' A5 (j + 1) k5) 26 (0, 0)) := heap_setCell_same w5 (w.heap.size + 1) 8 (callV c0 A' k cap' B' j ci') 26 _ Hk5.out
            go_roundw
            case rel =>
              refine ⟨j + 1, A5, k5, by omega, by go_num, hk9, ownsRow_setCell_below hown7 hg1 _, gb_set hgr9 _ _, ?_⟩
              rw [List.take_succ_eq_append_getElem hjd, List.all_append, Hall.out, hget.out]
              simp [Hok.out]
            case measure => simp [intOf]; omega
          · have Hok := Lib.hid (show itemOk rest[k + j] = false by simpa using hok)
            clear hok
            have hdn : decC (x0 :: c0.x :: rest) = none := by
              have : (rest.drop k).all itemOk = false := by
                rw [List.all_eq_false]
                exact ⟨(rest.drop k)[j], List.getElem_mem hjd, by rw [hget.out]; simp [Hok.out]⟩
              rw [HD.out, this]; rfl
            have Hdn := Lib.hid hdn
            clear hdn
            go_wp2_with (first | (go_at_call 32; refine (Item14_no rest[k + j] _ hRk Hok.out).mono ?_; rintro e w4 ⟨rfl, hb4⟩; have hk4 : w4.heap[w.heap.size]? = some (.cells zeroV 26 (0, 0)) := (hb4.block _ (by omega)).trans Hkx0.out; have Hk4 := Lib.hid hk4; clear hk4) | (refine wpList_store_whole 26 rfl (.tmp 2) (.tmp 107) rfl w.heap.size zeroV rfl rfl 26 zeroV ((Below.heap_alloc _ _ _ (heap_lt7 Hk4.out)).trans Hk4.out) info_call rfl zero_one ?_; intro w6 hk6 hg6))
            exact ret_cell_tmp Tryd.results18 rfl hk6 Tryd.underlying26 rfl info_call rfl (DecPost_none Hdn.out ((Hbx.out.trans (hb4.mono Hbx.out.size)).trans (((Below.refl _ _).alloc (by have := Hbx.out.size; have := hb4.size; omega) _).trans (grownBy_below hg6 (Nat.le_refl _) (by have := Hbx.out.size; have := hb4.size; simp; omega)))))
        · have hjn : j = nI := by omega
          subst hjn
          have Hkr2 := Hkx
          clear hj
          have hallR : (rest.drop k).all itemOk = true := by
            have := Hall.out
            rwa [List.take_of_length_le (by rw [List.length_drop, hrl.out]; omega)] at this
          have hownI : wr.ownsRow wa.heap.size 54 5 (.slice B' j ci') j (itemCells c0.items) := by
            have := Hownx.out
            rwa [List.take_of_length_le (by rw [List.length_drop, hrl.out]; omega), ← hcI.out] at this
          have hlenI : j = c0.items.length := by rw [hcI.out, List.length_map, List.length_drop, hrl.out]; omega
          have hownW : wr.ownsRow (w.heap.size + 2) 22 1 (.slice A' k cap') k (u64s c0.words) := by
            have := ownsRow_gb Hownr.out Hgx.out (by omega)
            rwa [hw0.out] at this
          have hD : decC (x0 :: c0.x :: rest) = if mayC c0 && decide (headC c0 = x0) then some c0 else none := by
            rw [HD.out, hallR]; rfl
          have HD2 := Lib.hid hD
          have v0 : wr.cell? ⟨b, off, none⟩ = some (.int .u64 (x0 : Int)) := (Hbx.out.cell (p := ⟨b, off, none⟩) hbb).trans v7
          have HcR : Hid (CallR wr c0 A' B') := Lib.hid ⟨ownsRow_sl hownW, ownsRow_sl hownI, by rw [← hlenW.out]; omega, by rw [← hlenI]; omega⟩
          have HlenI := Lib.hid hlenI
          have HownI := Lib.hid hownI
          have HownW := Lib.hid hownW
          clear hallR hownI hlenI hownW hD hlt
          obtain ⟨q0, q1, q2, q3, q4, q5, q6, q7, q8⟩ := cellsV Hkx.out
          go_wp2_with fail
          cases hm : mayC c0
          · refine (enc21_len c0 [] (by simp [encC, hm]) 0 rfl k j hlenW.out HlenI.out A' B' cap' ci' _ HcR.out).mono ?_
            rintro e w5 ⟨Z, z, rfl, _, _, hb5⟩
            have Hm := Lib.hid hm
            clear hm q0 q1 q2 q3 q4 q5 q6 q7 q8 v0
            have hk5z : w5.drew.heap[w.heap.size]? = some (.cells zeroV 26 (0, 0)) := (hb5.block w.heap.size (by omega)).trans Hkx0.out
            have Hk5z := Lib.hid hk5z
            have Hbx5 := Lib.hid ((Hbx.out.trans (hb5.mono Hbx.out.size)).drew)
            clear hk5z hb5
            go_wp2_with fail
            refine wp_region_held_drew (S := (fun _ => True)) (by kernel_rfl) trivial (fun hHeld => ?_)
            refine wpAnyH_take (i := 0) (oi := { dst := some 116, op := .move (.tmp 12), type := 23, pos := "ref.go:79", after := #[], guard := none }) (v := ?_) rfl (by kernel_rfl) (by kernel_rfl) (by kernel_rfl) (fun _ _ _ h => h) (Or.inl ⟨by rfl, ?_⟩) hHeld ?_
            rotate_left
            · intro w hSw
              go_simp
              try with_reducible rfl
            try simp only [Act.put, List.setIfInBounds_toArray, List.set_cons_zero, List.set_cons_succ]
            refine wpAnyH_take (i := 1) (oi := { dst := some 117, op := .call { callee := .builtin .len, args := #[.tmp 116], argTypes := #[23] }, type := 3, pos := "ref.go:79", after := #[{ on := 0, ground := .data }], guard := none }) (v := ?_) rfl (by kernel_rfl) (by kernel_rfl) (by kernel_rfl) (fun _ _ _ h => h) (Or.inl ⟨by rfl, ?_⟩) hHeld ?_
            rotate_left
            · intro w hSw
              go_simp
              try with_reducible rfl
            try simp only [Act.put, List.setIfInBounds_toArray, List.set_cons_zero, List.set_cons_succ]
            refine wpAnyH_take (i := 2) (oi := { dst := some 118, op := .binOp .eql 3 (.tmp 117) (.const (.int .i64 0)) 3, type := 4, pos := "ref.go:79", after := #[{ on := 1, ground := .data }], guard := none }) (v := ?_) rfl (by kernel_rfl) (by kernel_rfl) (by kernel_rfl) (fun _ _ _ h => h) (Or.inl ⟨by rfl, ?_⟩) hHeld ?_
            rotate_left
            · intro w hSw
              go_simp
              try with_reducible rfl
            try simp only [Act.put, List.setIfInBounds_toArray, List.set_cons_zero, List.set_cons_succ]
            refine wpAnyH_take (i := 3) (oi := { dst := some 119, op := .move (.tmp 118), type := 4, pos := "ref.go:79", after := #[{ on := 2, ground := .data }], guard := none }) (v := ?_) rfl (by kernel_rfl) (by kernel_rfl) (by kernel_rfl) (fun _ _ _ h => h) (Or.inl ⟨by rfl, ?_⟩) hHeld ?_
            rotate_left
            · intro w hSw
              go_simp
              try with_reducible rfl
            try simp only [Act.put, List.setIfInBounds_toArray, List.set_cons_zero, List.set_cons_succ]
            refine wpAnyH_take (i := 4) (oi := { dst := some 120, op := .move (.tmp 12), type := 23, pos := "ref.go:79", after := #[{ on := 3, ground := .guard }], guard := some (3, false) }) (v := undef) rfl (by kernel_rfl) (by kernel_rfl) (by kernel_rfl) (fun _ _ _ h => h) (Or.inr ⟨by rfl, rfl⟩) hHeld ?_
            try simp only [Act.put, List.setIfInBounds_toArray, List.set_cons_zero, List.set_cons_succ]
            refine wpAnyH_take (i := 5) (oi := { dst := some 121, op := .indexAddr 23 (.tmp 120) (.const (.int .i64 0)), type := 0, pos := "ref.go:79", after := #[{ on := 4, ground := .data }, { on := 3, ground := .guard }], guard := some (3, false) }) (v := undef) rfl (by kernel_rfl) (by kernel_rfl) (by kernel_rfl) (fun _ _ _ h => h) (Or.inr ⟨by rfl, rfl⟩) hHeld ?_
            try simp only [Act.put, List.setIfInBounds_toArray, List.set_cons_zero, List.set_cons_succ]
            refine wpAnyH_take (i := 6) (oi := { dst := some 122, op := .load 22 (.tmp 121), type := 22, pos := "ref.go:79", after := #[{ on := 5, ground := .data }, { on := 3, ground := .guard }], guard := some (3, false) }) (v := undef) rfl (by kernel_rfl) (by kernel_rfl) (by kernel_rfl) (fun _ _ _ h => h) (Or.inr ⟨by rfl, rfl⟩) hHeld ?_
            try simp only [Act.put, List.setIfInBounds_toArray, List.set_cons_zero, List.set_cons_succ]
            refine wpAnyH_take (i := 7) (oi := { dst := some 123, op := .move (.tmp 0), type := 23, pos := "ref.go:79", after := #[{ on := 3, ground := .guard }], guard := some (3, false) }) (v := undef) rfl (by kernel_rfl) (by kernel_rfl) (by kernel_rfl) (fun _ _ _ h => h) (Or.inr ⟨by rfl, rfl⟩) hHeld ?_
            try simp only [Act.put, List.setIfInBounds_toArray, List.set_cons_zero, List.set_cons_succ]
            refine wpAnyH_take (i := 8) (oi := { dst := some 124, op := .indexAddr 23 (.tmp 123) (.const (.int .i64 0)), type := 0, pos := "ref.go:79", after := #[{ on := 7, ground := .data }, { on := 3, ground := .guard }], guard := some (3, false) }) (v := undef) rfl (by kernel_rfl) (by kernel_rfl) (by kernel_rfl) (fun _ _ _ h => h) (Or.inr ⟨by rfl, rfl⟩) hHeld ?_
            try simp only [Act.put, List.setIfInBounds_toArray, List.set_cons_zero, List.set_cons_succ]
            refine wpAnyH_take (i := 9) (oi := { dst := some 125, op := .load 22 (.tmp 124), type := 22, pos := "ref.go:79", after := #[{ on := 8, ground := .data }, { on := 3, ground := .guard }], guard := some (3, false) }) (v := undef) rfl (by kernel_rfl) (by kernel_rfl) (by kernel_rfl) (fun _ _ _ h => h) (Or.inr ⟨by rfl, rfl⟩) hHeld ?_
            try simp only [Act.put, List.setIfInBounds_toArray, List.set_cons_zero, List.set_cons_succ]
            refine wpAnyH_take (i := 10) (oi := { dst := some 126, op := .binOp .neq 22 (.tmp 122) (.tmp 125) 22, type := 4, pos := "ref.go:79", after := #[{ on := 6, ground := .data }, { on := 9, ground := .data }, { on := 3, ground := .guard }], guard := some (3, false) }) (v := undef) rfl (by kernel_rfl) (by kernel_rfl) (by kernel_rfl) (fun _ _ _ h => h) (Or.inr ⟨by rfl, rfl⟩) hHeld ?_
            try simp only [Act.put, List.setIfInBounds_toArray, List.set_cons_zero, List.set_cons_succ]
            refine wpAnyH_take (i := 11) (oi := { dst := some 127, op := .pick (.tmp 119) (.const (.bool true)) (.tmp 126), type := 4, pos := "ref.go:79", after := #[{ on := 3, ground := .data }, { on := 10, ground := .data }], guard := none }) (v := ?_) rfl (by kernel_rfl) (by kernel_rfl) (by kernel_rfl) (fun _ _ _ h => h) (Or.inl ⟨by rfl, ?_⟩) hHeld ?_
            rotate_left
            · intro w hSw
              go_simp
              try with_reducible rfl
            try simp only [Act.put, List.setIfInBounds_toArray, List.set_cons_zero, List.set_cons_succ]
            refine wpAnyH_done (by kernel_rfl) ?_ _
            clear hHeld
            go_wp2_with (refine wpList_store_whole 26 rfl (.tmp 2) (.tmp 128) rfl w.heap.size zeroV rfl rfl 26 zeroV Hk5z.out info_call rfl zero_one ?_; intro w6 hk6 hg6)
            exact ret_cell_tmp Tryd.results18 rfl hk6 Tryd.underlying26 rfl info_call rfl (DecPost_none (by rw [HD2.out, if_neg (by simp [Hm.out])]) (Hbx5.out.trans (grownBy_below hg6 (Nat.le_refl _) Hbx5.out.size)))
          · obtain ⟨ne, hne⟩ : ∃ ne, (encC c0).length = ne := ⟨_, rfl⟩
            have hne2 : 2 ≤ ne := by have := encC_length c0 hm; omega
            refine (enc21_len c0 _ rfl ne hne k j hlenW.out HlenI.out A' B' cap' ci' _ HcR.out).mono ?_
            rintro e w5 ⟨Z, z, rfl, _, hz, hb5⟩
            have Hm := Lib.hid hm
            have hz' : SlR w5 Z (u64s (headC c0 :: c0.x :: (c0.words ++ c0.items.map codeI))) := by
              have e0 : encC c0 = headC c0 :: c0.x :: (c0.words ++ c0.items.map codeI) := by simp only [encC, hm, if_true]
              rw [← e0]; exact hz
            obtain ⟨zb, zo, rfl, hzb, hzc⟩ := hz'.word (k := 0) (by simp)
            have hz0c := hzc 0 (by simp)
            simp only [Nat.add_zero, List.getElem_cons_zero] at hz0c
            have v5 : w5.cell? ⟨b, off, none⟩ = some (.int .u64 (x0 : Int)) := (hb5.cell (p := ⟨b, off, none⟩) (Nat.lt_of_lt_of_le hbb Hbx.out.size)).trans v0
            have m1 : (0 : Int) < (ne : Int) := by omega
            have m2 : ((ne : Int) == 0) = false := by simp; omega
            have m3 : ¬ (ne : Int) = 0 := by omega
            have m4 : 0 < ne := by omega
            have Hb5 := Lib.hid hb5
            have hk5 : w5.drew.heap[w.heap.size + 1]? = some (.cells (callV c0 A' k cap' B' j ci') 26 (0, 0)) := (hb5.block (w.heap.size + 1) hgx7).trans Hkr2.out
            have hk5z : w5.drew.heap[w.heap.size]? = some (.cells zeroV 26 (0, 0)) := (hb5.block w.heap.size (by omega)).trans Hkx0.out
            have HcR5 := Lib.hid (HcR.out.below hb5.drew)
            have hbx5 : Below w.heap.size w w5.drew := (Hbx.out.trans (hb5.mono Hbx.out.size)).drew
            have Hbx5 := Lib.hid hbx5
            have HownI5 := Lib.hid (ownsRow_below HownI.out hb5.drew)
            have HownW5 := Lib.hid (ownsRow_below HownW.out hb5.drew)
            have Hk5z := Lib.hid hk5z
            have Hk5 := Lib.hid hk5
            clear hz hz' hzc hne hb5 hm q0 q1 q2 q3 q4 q5 q6 q7 q8 v0 hbx5 hk5z hk5
            go_wp2_with fail
            go_region_held3 (fun w' => w'.cell? ⟨zb, zo, none⟩ = some (.int .u64 ((headC c0 : Nat) : Int)) ∧ w'.cell? ⟨b, off, none⟩ = some (.int .u64 (x0 : Int))) (go_keep) (fail)
            clear hz0c v5
            obtain ⟨q0, q1, q2, q3, q4, q5, q6, q7, q8⟩ := cellsV Hk5.out
            by_cases hh : headC c0 = x0
            · have th : (((headC c0 : Nat) : Int) != (x0 : Int)) = false := by simp [hh]
              have Hh := Lib.hid hh
              clear hh
              go_wp2_with (refine wpList_store_whole 26 rfl (.tmp 2) (.tmp 129) rfl w.heap.size (callV c0 A' k cap' B' j ci') rfl rfl 26 zeroV Hk5z.out info_call rfl (one_callV _ _ _ _ _ _ _) ?_; intro w6 hk6 hg6)
              have hfin : Below w.heap.size w w6 := Hbx5.out.trans (grownBy_below hg6 (Nat.le_refl _) Hbx5.out.size)
              have hDs : decC (x0 :: c0.x :: rest) = some c0 := by rw [HD2.out, Hm.out]; simp [Hh.out]
              have hRW : SlR w6 A' (u64s c0.words) := ownsRow_sl (ownsRow_gb HownW5.out hg6 (by omega))
              have hRI : SlR w6 B' (itemCells c0.items) := ownsRow_sl (ownsRow_gb HownI5.out hg6 (by omega))
              refine ret_cell_tmp Tryd.results18 rfl hk6 Tryd.underlying26 rfl info_call rfl ?_
              have := DecPost_some (A := A') (B := B') (cw := cap') (ci := ci') hDs hRW hRI hfin
              rw [← hlenW.out, ← HlenI.out] at this
              exact this
            · have th : (((headC c0 : Nat) : Int) != (x0 : Int)) = true := by simp; omega
              have Hh := Lib.hid hh
              clear hh
              go_wp2_with (refine wpList_store_whole 26 rfl (.tmp 2) (.tmp 128) rfl w.heap.size zeroV rfl rfl 26 zeroV Hk5z.out info_call rfl zero_one ?_; intro w6 hk6 hg6)
              exact ret_cell_tmp Tryd.results18 rfl hk6 Tryd.underlying26 rfl info_call rfl (DecPost_none (by rw [HD2.out, if_neg (by simp [Hh.out])]) (Hbx5.out.trans (grownBy_below hg6 (Nat.le_refl _) Hbx5.out.size)))
end Go.Proofs.YtmjkljgccaipoaaDoor
