/- The reference's Order, Left, New. Condition: its row is read. -/
import Derived.Test.YtjbkkloobggjkaaDoorC7
import Derived.Test.YtjbkkloobggjkaaDoorE0
namespace Go.Proofs.YtjbkkloobggjkaaDoor
open Go.RowKit

theorem orderC_find {l : List Tl} {x r : Int} (h : FindR (blks false 0 l) x r) : (r < 0 ∧ orderC l x = -1) ∨ ∃ (k : Nat) (hk : k < (blks false 0 l).length), r = (k : Int) ∧ orderC l x = ((blks false 0 l)[k].2 : Int) := by
  rcases h with ⟨rfl, h⟩ | ⟨k, hk, rfl, h⟩
  · exact .inl ⟨by omega, orderC_eq (.inr ⟨fun p k e hm => h _ hm (by simp only; omega), rfl⟩)⟩
  · refine .inr ⟨k, hk, rfl, orderC_eq (.inl ⟨(blks false 0 l)[k].1, (blks false 0 l)[k].2, by omega, List.getElem_mem hk, rfl⟩)⟩
section
variable {w : World} {g top : Nat} {A1 A2 : Option Addr} {c1 c2 : Nat} {LF : List (Nat × Nat)} {l : List Tl}
theorem rorder_any (h : RB w g top A1 c1 LF A2 c2 (blks false 0 l)) (hl : (blks false 0 l).length ≤ 1048576) (x r : Int) (hr : orderC l x = r) : Calls Tryd.prog 21 #[.pointer (some ⟨g, 0, none⟩), .int .i64 x] w fun e w' => e = .returned (.int .i64 r) ∧ w' = w := by
  have k2 := h.r2
  have HH := Lib.hid h
  have HR := Lib.hid hr
  have HL := Lib.hid hl
  clear h hr hl
  go_enter Tryd.func21, Tryd.ntmps21
  go_wp2_with fail
  refine (find_r (blks false 0 l) _ rfl HL.out A2 c2 x _ HH.out.u.sl).mono ?_
  rintro e w' ⟨i, rfl, hi, rfl⟩
  rcases orderC_find hi with ⟨h1, h2⟩ | ⟨k, hk, rfl, h2⟩
  · have HE : Hid (r = -1) := Lib.hid (by rw [← HR.out, h2])
    clear hi h2
    go_wp2
    go_ret
    exact ⟨by rw [HE.out]; rfl, rfl⟩
  · obtain ⟨a, off, ea, _, d1, d2⟩ := HH.out.u.sl.blk' hk
    obtain ⟨K2, hK2⟩ : ∃ K2 : Nat, (blks false 0 l)[k].2 = K2 := ⟨_, rfl⟩
    rw [hK2] at h2 d2
    have HE : Hid (r = (K2 : Int)) := Lib.hid (by rw [← HR.out, h2])
    rw [ea] at k2
    have i0 : (0 : Int) ≤ (k : Int) := by omega
    have i1 : (k : Int) < (((blks false 0 l).length : Nat) : Int) := by omega
    have i2 : ¬ ((k : Int) < 0) := by omega
    rw [← HE.out] at d2
    clear hi h2 d1 hK2 hk
    go_wp2
    go_ret
    exact ⟨rfl, rfl⟩
theorem topC_take (L : List (Nat × Nat)) (k : Nat) (hk : k < L.length) : (L.take (k + 1)).foldl (fun m x => max m (x.2 : Int)) (-1) = max ((L.take k).foldl (fun m x => max m (x.2 : Int)) (-1)) (L[k].2 : Int) := by
  rw [List.take_succ_eq_append_getElem hk, List.foldl_append]
  rfl
theorem rleft_any (h : RB w g top A1 c1 (blks true 0 l) A2 c2 LF) (hg : Good top l) (ht : top ≤ 20) : Calls Tryd.prog 20 #[.pointer (some ⟨g, 0, none⟩)] w fun e w' => e = .returned (.tuple #[.int .i64 ((leftB (blks true 0 l) : Nat) : Int), .int .i64 (topC l)]) ∧ w' = w := by
  have k1 := h.r1
  have HH := Lib.hid h
  have hle := leftB_span true 0 l
  have hsp := hg.all
  have htp : 2 ^ top ≤ 2 ^ 20 := Nat.pow_le_pow_right (by decide) ht
  have HB : Hid (leftB (blks true 0 l) ≤ 1073741824) := Lib.hid (by rw [hsp] at hle; omega)
  have hlen := blks_length true 0 l
  have HLE : Hid ((blks true 0 l).length ≤ 1048576) := Lib.hid (by rw [hsp] at hlen; omega)
  have HO : Hid (∀ x ∈ blks true 0 l, x.2 ≤ 20) := Lib.hid (fun x hx => by
    obtain ⟨a, c, e, _⟩ := blks_mem hx
    have := hg.le (x.2, true) (by rw [e]; simp)
    simp only at *
    omega)
  obtain ⟨L, hL⟩ : ∃ L, blks true 0 l = L := ⟨_, rfl⟩
  have HT : Hid (topC l = L.foldl (fun m x => max m (x.2 : Int)) (-1)) := Lib.hid (by rw [← hL]; rfl)
  rw [hL] at HB HLE HO k1 HH ⊢
  have HF := Lib.hid HH.out.f.sl
  obtain ⟨m, hm⟩ : ∃ m, L.length = m := ⟨_, rfl⟩
  rw [hm] at k1
  have HM := Lib.hid hm
  clear h hle hsp htp hlen hg ht hL hm
  go_enter Tryd.func20, Tryd.ntmps20
  go_wp2
  go_loopw [4, 5, 6] (fun n t i wr => ∃ k : Nat, k ≤ m ∧ n = .int .i64 ((leftB (L.take k) : Nat) : Int) ∧ t = .int .i64 ((L.take k).foldl (fun m x => max m (x.2 : Int)) (-1)) ∧ i = .int .i64 (k : Int) ∧ wr = w) (fun _ _ i _ => m - (intOf i).toNat)
  case atStart => exact ⟨0, Nat.zero_le _, rfl, rfl, rfl, rfl⟩
  case round =>
    obtain ⟨k, hk, rfl, rfl, rfl, rfl⟩ := hrel
    by_cases q : k < m
    · have q1 : (k : Int) < (m : Int) := by omega
      have q0 : (0 : Int) ≤ (k : Int) := by omega
      have hkl : k < L.length := by have := HM.out; omega
      obtain ⟨a, off, ea, _, d1, d2⟩ := HF.out.blk' hkl
      rw [ea] at k1
      have hx2 := HO.out L[k] (List.getElem_mem hkl)
      have e1 := leftB_take L k hkl
      have e2 := leftB_le L (k + 1)
      have e3 := topC_take L k hkl
      obtain ⟨x2, hx⟩ : ∃ x2 : Nat, L[k].2 = x2 := ⟨_, rfl⟩
      rw [hx] at d2 hx2 e1 e3
      obtain ⟨X, hX⟩ : ∃ X : Int, (x2 : Int) = X := ⟨_, rfl⟩
      rw [hX] at d2 e3
      obtain ⟨Z, hZ⟩ : ∃ Z : Int, ((1024 * 2 ^ x2 : Nat) : Int) = Z := ⟨_, rfl⟩
      obtain ⟨Y, hY⟩ : ∃ Y : Int, ((leftB (L.take k) : Nat) : Int) = Y := ⟨_, rfl⟩
      obtain ⟨Y2, hY2⟩ : ∃ Y2 : Int, Y + Z = Y2 := ⟨_, rfl⟩
      have hY3 : Y2 = ((leftB (L.take (k + 1)) : Nat) : Int) := by omega
      have z1 : IntKind.i64.wrap (Y + Z) = Y2 := by rw [hY2, hY3, IntKind.wrap_i64]; have := HB.out; omega
      have zk : IntKind.i64.wrap ((k : Int) + 1) = (k : Int) + 1 := by rw [IntKind.wrap_i64]; have := HLE.out; have := HM.out; omega
      obtain ⟨T, hT⟩ : ∃ T : Int, (L.take k).foldl (fun m x => max m (x.2 : Int)) (-1) = T := ⟨_, rfl⟩
      rw [hT] at e3
      have HX := Lib.hid hX
      have HX2 := Lib.hid hx2
      have HY3 := Lib.hid hY3
      have HZ := Lib.hid hZ
      have km : Hid (k + 1 ≤ m) := Lib.hid q
      by_cases hcmp : T < X
      · have t1 : decide (T < X) = true := decide_eq_true hcmp
        have HE3 : Hid ((L.take (k + 1)).foldl (fun m x => max m (x.2 : Int)) (-1) = X) := Lib.hid (by rw [e3]; omega)
        rw [hY, hT]
        clear hx hX hZ e1 e2 hY hY2 hY3 hx2 d1 hkl e3 hT hcmp ea
        go_wp2_with fail
        refine (size_r x2 HX2.out X HX.out.symm _).mono ?_
        rintro e w' ⟨rfl, rfl⟩
        rw [HZ.out]
        go_wp2
        go_roundw
        case rel => exact ⟨k + 1, km.out, by rw [HY3.out], by rw [HE3.out], by go_num, by first | rfl | trivial⟩
        case measure => (try simp [intOf]) <;> omega
      · have t1 : decide (T < X) = false := decide_eq_false hcmp
        have HE3 : Hid ((L.take (k + 1)).foldl (fun m x => max m (x.2 : Int)) (-1) = T) := Lib.hid (by rw [e3]; omega)
        rw [hY, hT]
        clear hx hX hZ e1 e2 hY hY2 hY3 hx2 d1 hkl e3 hT hcmp ea
        go_wp2_with fail
        refine (size_r x2 HX2.out X HX.out.symm _).mono ?_
        rintro e w' ⟨rfl, rfl⟩
        rw [HZ.out]
        go_wp2
        go_roundw
        case rel => exact ⟨k + 1, km.out, by rw [HY3.out], by rw [HE3.out], by go_num, by first | rfl | trivial⟩
        case measure => (try simp [intOf]) <;> omega
    · have q1 : ¬ ((k : Int) < (m : Int)) := by omega
      have e : k = m := by omega
      have e2 : L.take k = L := by rw [e, ← HM.out]; exact List.take_length
      rw [e2]
      clear e e2 q hk
      go_wp2
      go_ret2
      exact ⟨by rw [HT.out]; rfl, rfl⟩
end
theorem rb_new (w : World) (top : Nat) (cs ds : Array Value) (hc : cs.toList = bCells [(0, top)]) (hd : ds.toList = [.int .i64 (top : Int), .slice (some ⟨w.heap.size, 0, none⟩) 1 1, .slice none 0 0]) : RB ((w.alloc (.cells cs 44)).alloc (.cells ds 42)) (w.heap.size + 1) top (some ⟨w.heap.size, 0, none⟩) 1 [(0, top)] none 0 [] := by
  have h1 := heap_alloc_new (w.alloc (.cells cs 44)) (.cells ds 42)
  rw [World.size_alloc] at h1
  have h2 := (heap_alloc_old (w.alloc (.cells cs 44)) (.cells ds 42) (r := w.heap.size) (by rw [World.size_alloc]; omega)).trans (heap_alloc_new w (.cells cs 44))
  refine ⟨fun _ => ⟨_, 0, _, _, rfl, h1, ⟨by decide, rfl⟩, fun j u hu => ?_⟩, fun _ => ⟨_, 0, _, _, rfl, h2, ⟨by decide, (tyOf_bCells _).symm⟩, fun j u hu => ?_⟩, HeldS.nil _ _, Nat.le_refl _, Nat.le_refl _⟩
  · rw [Nat.zero_add, ← Array.getElem?_toList, hd]
    exact hu
  · rw [Nat.zero_add, ← Array.getElem?_toList, hc]
    exact hu
theorem rnew_any (N top : Nat) (NN : Int) (hNN : NN = (N : Int)) (hN : N = 1024 * 2 ^ top) (ht : top ≤ 20) (w : World) : Calls Tryd.prog 17 #[.int .i64 NN] w fun e w' => ∃ g A1 c1 A2 c2, e = .returned (.pointer (some ⟨g, 0, none⟩)) ∧ w.heap.size ≤ g ∧ RB w' g top A1 c1 [(0, top)] A2 c2 [] ∧ Below w.heap.size w w' := by
  have HNN := Lib.hid hNN
  have HN := Lib.hid hN
  have HT := Lib.hid ht
  clear hNN hN ht
  go_enter Tryd.func17, Tryd.ntmps17
  go_wp2
  go_loopw [3] (fun i wr => ∃ k : Nat, k ≤ top ∧ i = .int .i64 (k : Int) ∧ wr = w) (fun i _ => top - (intOf i).toNat)
  case atStart => exact ⟨0, Nat.zero_le _, rfl, rfl⟩
  case round =>
    obtain ⟨k, hk, rfl, rfl⟩ := hrel
    obtain ⟨K, hK⟩ : ∃ K : Int, (k : Int) = K := ⟨_, rfl⟩
    have HK := Lib.hid hK
    have HKT := Lib.hid hk
    rw [hK]
    clear hK hk
    go_wp2_with fail
    refine (size_r k (Nat.le_trans HKT.out HT.out) K HK.out.symm _).mono ?_
    rintro e w' ⟨rfl, rfl⟩
    obtain ⟨Z, hZ⟩ : ∃ Z : Int, ((1024 * 2 ^ k : Nat) : Int) = Z := ⟨_, rfl⟩
    rw [hZ]
    by_cases q : k < top
    · have t1 : decide (Z < NN) = true := decide_eq_true (by
        rw [HNN.out, HN.out, ← hZ]
        have : 2 ^ k < 2 ^ top := Nat.pow_lt_pow_right (by omega) q
        omega)
      have zk : IntKind.i64.wrap (K + 1) = K + 1 := by rw [IntKind.wrap_i64]; have := HK.out; have := HT.out; omega
      have Q := Lib.hid q
      clear hZ q
      go_wp2
      go_roundw
      case rel => exact ⟨k + 1, Q.out, by rw [← HK.out]; go_num, by first | rfl | trivial⟩
      case measure => have := HK.out; have := Q.out; (try simp [intOf]) <;> omega
    · have e : k = top := by have := HKT.out; omega
      have t1 : decide (Z < NN) = false := decide_eq_false (by
        rw [HNN.out, HN.out, ← hZ, e]
        omega)
      have HE := Lib.hid e
      clear hZ q e
      go_wp2
      go_ret
      exact ⟨w'.heap.size + 1, some ⟨w'.heap.size, 0, none⟩, 1, none, 0, rfl, Nat.le_succ _, rb_new w' top _ _ (by rw [← HK.out, HE.out]; rfl) (by rw [← HK.out, HE.out]), ((Below.refl _ _).alloc (Nat.le_refl _) _).alloc (by simp) _⟩
end Go.Proofs.YtjbkkloobggjkaaDoor
