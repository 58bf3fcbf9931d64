/- The reference's Order, Left, New. Condition: its row is read. -/
import Derived.Test.YtbadoihpbemjjaaDoorY32
import Derived.Test.YtbadoihpbemjjaaDoorY31
/- The reference's Order, Left, New. Condition: its row is read. -/
namespace Go.Proofs.YtbadoihpbemjjaaDoor
open Go.RowKit

theorem rb_new (w : World) (top : Nat) (cs ds : Array Value) (hc : cs.toList = bCells [(0, top)]) (hd : ds.toList = [.int .i64 (top : Int), .slice (some ⟨w.heap.size, 0, none⟩) 1 1, .slice none 0 0]) : RB ((w.alloc (.cells cs 86)).alloc (.cells ds 54)) (w.heap.size + 1) top (some ⟨w.heap.size, 0, none⟩) 1 [(0, top)] none 0 [] := by
  have h1 := heap_alloc_new (w.alloc (.cells cs 86)) (.cells ds 54)
  rw [World.size_alloc] at h1
  have h2 := (((Below.refl _ (w.alloc (.cells cs 86))).alloc (Nat.le_refl _) (.cells ds 54)).block w.heap.size (by rw [World.size_alloc]; omega)).trans (heap_alloc_new w (.cells cs 86))
  refine ⟨fun _ => ⟨_, 0, _, _, rfl, h1, ⟨by decide, rfl⟩, fun j u hu => ?_⟩, fun _ => ⟨_, 0, _, _, rfl, h2, ⟨by decide, (tyOf_bCells _).symm⟩, fun j u hu => ?_⟩, HeldS.nil _ _, Nat.le_refl _, Nat.le_refl _⟩
  · rw [Nat.zero_add, ← Array.getElem?_toList, hd]
    exact hu
  · rw [Nat.zero_add, ← Array.getElem?_toList, hc]
    exact hu
theorem rnew_any (N top : Nat) (NN : Int) (hNN : NN = (N : Int)) (hN : N = 1024 * 2 ^ top) (ht : top ≤ 20) (w : World) : Calls Tryd.prog 20 #[.int .i64 NN] w fun e w' => ∃ g A1 c1 A2 c2, e = .returned (.pointer (some ⟨g, 0, none⟩)) ∧ w.heap.size ≤ g ∧ RB w' g top A1 c1 [(0, top)] A2 c2 [] ∧ Below w.heap.size w w' := by
  have HNN := Lib.hid hNN
  have HN := Lib.hid hN
  have HT := Lib.hid ht
  clear hNN hN ht
  go_enter Tryd.func20, Tryd.ntmps20
  go_wp2
  go_loopw [3] (fun i wr => ∃ k : Nat, k ≤ top ∧ i = .int .i64 (k : Int) ∧ wr = w) (fun i _ => top - (intOf i).toNat)
  case atStart => exact ⟨0, Nat.zero_le _, rfl, rfl⟩
  case round =>
    obtain ⟨k, hk, rfl, rfl⟩ := hrel
    obtain ⟨K, hK⟩ : ∃ K : Int, (k : Int) = K := ⟨_, rfl⟩
    have HK := Lib.hid hK
    have HKT := Lib.hid hk
    rw [hK]
    clear hK hk
    go_wp2_with fail
    refine (size_r k (Nat.le_trans HKT.out HT.out) K HK.out.symm _).mono ?_
    rintro e w' ⟨rfl, rfl⟩
    obtain ⟨Z, hZ⟩ : ∃ Z : Int, ((1024 * 2 ^ k : Nat) : Int) = Z := ⟨_, rfl⟩
    rw [hZ]
    by_cases q : k < top
    · have t1 : decide (Z < NN) = true := decide_eq_true (by
        rw [HNN.out, HN.out, ← hZ]
        have : 2 ^ k < 2 ^ top := Nat.pow_lt_pow_right (by omega) q
        omega)
      have zk : IntKind.i64.wrap (K + 1) = K + 1 := by rw [IntKind.wrap_i64]; have := HK.out; have := HT.out; omega
      have Q := Lib.hid q
      clear hZ q
      go_wp2
      go_roundw
      case rel => exact ⟨k + 1, Q.out, by rw [← HK.out]; go_num, by first | rfl | trivial⟩
      case measure => have := HK.out; have := Q.out; (try simp [intOf]) <;> omega
    · have e : k = top := by have := HKT.out; omega
      have t1 : decide (Z < NN) = false := decide_eq_false (by
        rw [HNN.out, HN.out, ← hZ, e]
        omega)
      have HE := Lib.hid e
      clear hZ q e
      go_wp2
      go_ret
      exact ⟨w'.heap.size + 1, some ⟨w'.heap.size, 0, none⟩, 1, none, 0, rfl, Nat.le_succ _, rb_new w' top _ _ (by rw [← HK.out, HE.out]; rfl) (by rw [← HK.out, HE.out]), ((Below.refl _ _).alloc (Nat.le_refl _) _).alloc (by simp) _⟩
end Go.Proofs.YtbadoihpbemjjaaDoor
