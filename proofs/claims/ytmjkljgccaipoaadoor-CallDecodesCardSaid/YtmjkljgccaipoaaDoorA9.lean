/- The contract of Decode at two words and more. Condition: the words are 64 bits wide. -/
import Derived.Test.YtmjkljgccaipoaaDoorA8
import Derived.Deep.RegionWith
namespace Go.Proofs.YtmjkljgccaipoaaDoor
open Go.RowKit

theorem keepD {b off g1 x0 x1 : Nat} {W w3 : World} (hb : Below W.heap.size W w3) (h : W.cell? ⟨g1, 0, none⟩ = some (.int .u64 0) ∧ W.cell? ⟨g1, 1, none⟩ = some (.int .u64 8) ∧ W.cell? ⟨g1, 3, none⟩ = some (.int .u64 8) ∧ W.cell? ⟨g1, 4, none⟩ = some (.int .u64 8) ∧ W.cell? ⟨g1, 6, none⟩ = some (.int .u64 16) ∧ W.cell? ⟨g1, 7, none⟩ = some (.int .u64 4) ∧ W.cell? ⟨g1, 9, none⟩ = some (.int .u64 20) ∧ W.cell? ⟨g1, 10, none⟩ = some (.int .u64 2) ∧ W.cell? ⟨g1, 12, none⟩ = some (.int .u64 22) ∧ W.cell? ⟨g1, 13, none⟩ = some (.int .u64 1) ∧ W.cell? ⟨g1, 15, none⟩ = some (.int .u64 24) ∧ W.cell? ⟨g1, 16, none⟩ = some (.int .u64 8) ∧ W.cell? ⟨g1, 18, none⟩ = some (.int .u64 32) ∧ W.cell? ⟨g1, 19, none⟩ = some (.int .u64 8) ∧ W.cell? ⟨g1, 21, none⟩ = some (.int .u64 40) ∧ W.cell? ⟨g1, 22, none⟩ = some (.int .u64 21) ∧ W.cell? ⟨b, off, none⟩ = some (.int .u64 (x0 : Int)) ∧ W.cell? ⟨b, off + 1, none⟩ = some (.int .u64 (x1 : Int))) :
    w3.cell? ⟨g1, 0, none⟩ = some (.int .u64 0) ∧ w3.cell? ⟨g1, 1, none⟩ = some (.int .u64 8) ∧ w3.cell? ⟨g1, 3, none⟩ = some (.int .u64 8) ∧ w3.cell? ⟨g1, 4, none⟩ = some (.int .u64 8) ∧ w3.cell? ⟨g1, 6, none⟩ = some (.int .u64 16) ∧ w3.cell? ⟨g1, 7, none⟩ = some (.int .u64 4) ∧ w3.cell? ⟨g1, 9, none⟩ = some (.int .u64 20) ∧ w3.cell? ⟨g1, 10, none⟩ = some (.int .u64 2) ∧ w3.cell? ⟨g1, 12, none⟩ = some (.int .u64 22) ∧ w3.cell? ⟨g1, 13, none⟩ = some (.int .u64 1) ∧ w3.cell? ⟨g1, 15, none⟩ = some (.int .u64 24) ∧ w3.cell? ⟨g1, 16, none⟩ = some (.int .u64 8) ∧ w3.cell? ⟨g1, 18, none⟩ = some (.int .u64 32) ∧ w3.cell? ⟨g1, 19, none⟩ = some (.int .u64 8) ∧ w3.cell? ⟨g1, 21, none⟩ = some (.int .u64 40) ∧ w3.cell? ⟨g1, 22, none⟩ = some (.int .u64 21) ∧ w3.cell? ⟨b, off, none⟩ = some (.int .u64 (x0 : Int)) ∧ w3.cell? ⟨b, off + 1, none⟩ = some (.int .u64 (x1 : Int)) :=
  ⟨keep1 hb (h.1), keep1 hb (h.2.1), keep1 hb (h.2.2.1), keep1 hb (h.2.2.2.1), keep1 hb (h.2.2.2.2.1), keep1 hb (h.2.2.2.2.2.1), keep1 hb (h.2.2.2.2.2.2.1), keep1 hb (h.2.2.2.2.2.2.2.1), keep1 hb (h.2.2.2.2.2.2.2.2.1), keep1 hb (h.2.2.2.2.2.2.2.2.2.1), keep1 hb (h.2.2.2.2.2.2.2.2.2.2.1), keep1 hb (h.2.2.2.2.2.2.2.2.2.2.2.1), keep1 hb (h.2.2.2.2.2.2.2.2.2.2.2.2.1), keep1 hb (h.2.2.2.2.2.2.2.2.2.2.2.2.2.1), keep1 hb (h.2.2.2.2.2.2.2.2.2.2.2.2.2.2.1), keep1 hb (h.2.2.2.2.2.2.2.2.2.2.2.2.2.2.2.1), keep1 hb (h.2.2.2.2.2.2.2.2.2.2.2.2.2.2.2.2.1), keep1 hb (h.2.2.2.2.2.2.2.2.2.2.2.2.2.2.2.2.2)⟩

theorem one_call {c : Cal} {A B : Option Addr} {cw ci : Nat} : (#[.int .i64 c.op, .int .i64 c.slot, .int .i64 c.a, .int .i64 c.b, .int .i64 c.c, .bool c.flag, .int .u64 (c.x : Int), .slice A c.words.length cw, .slice B c.items.length ci] : Array Value).all (·.oneCell') = true := by kernel_rfl
theorem zero_one : zeroV.all (·.oneCell') = true := by kernel_rfl
theorem decC_len (x0 x1 : Nat) (rest : List Nat) (nW nI : Nat) (e1 : (nW : Int) = ((x0 / 2 ^ 16 % 2 ^ 4 : Nat) : Int)) (e2 : (nI : Int) = ((x0 / 2 ^ 20 % 2 ^ 2 : Nat) : Int)) (h : rest.length ≠ nW + nI) : decC (x0 :: x1 :: rest) = none := by
  have hk : decOk x0 x1 rest = false := by
    have : decide (rest.length = x0 / 65536 % 16 + x0 / 1048576 % 4) = false := decide_eq_false (by omega)
    simp only [decOk, this, Bool.false_and]
  simp only [decC, hk, Bool.false_eq_true, if_false]
theorem info_call : (Tryd.prog.info? 26).map (·.size) = some 9 := by kernel_rfl

set_option maxRecDepth 100000 in
set_option maxHeartbeats 12800000 in
theorem decode_len (x0 x1 : Nat) (rest : List Nat) (n nW nI : Nat) (b off cap : Nat) (w : World) (hx0 : x0 < 18446744073709551616) (hn : Hid (n = rest.length + 2)) (h2 : 2 ≤ n) (hcap : n ≤ 140737488351232)
    (Hn : Hid ((nW : Int) = ((x0 / 2 ^ 16 % 2 ^ 4 : Nat) : Int))) (Hi : Hid ((nI : Int) = ((x0 / 2 ^ 20 % 2 ^ 2 : Nat) : Int))) (hW15 : nW ≤ 15) (hI3 : nI ≤ 3) (hne : Hid (rest.length ≠ nW + nI))
    (hbb : b < w.heap.size) (c0 : w.cell? ⟨b, off, none⟩ = some (.int .u64 (x0 : Int))) (c1 : w.cell? ⟨b, off + 1, none⟩ = some (.int .u64 (x1 : Int))) :
    Calls Tryd.prog 17 #[.slice (some ⟨b, off, none⟩) n cap] w (DecPost w (x0 :: x1 :: rest)) := by
  have n0 : 0 < n := by omega
  have n1 : 1 < n := by omega
  have i0 : (0 : Int) < (n : Int) := by omega
  have i1 : (1 : Int) < (n : Int) := by omega
  have i2 : (2 : Int) ≤ (n : Int) := by omega
  have i3 : decide ((n : Int) < 2) = false := by simp; omega
  have t0 : ((n : Int) != 2 + (nW : Int) + (nI : Int)) = true := by
    have := hn.out; have := hne.out; simp; omega
  go_enter Tryd.func17, Tryd.ntmps17
  go_wp2_with (first
    | (go_at_call 23; refine (layout_any _).mono ?_; rintro e w1 ⟨rfl, hb⟩; obtain ⟨hbw, hcb, hz⟩ := box_after hb; have hk0 : w1.heap[w.heap.size]? = some (.cells zeroV 26 (0, 0)) := (hb.block w.heap.size (by simp)).trans (heap_alloc_new w _); clear hb)
    | (refine wpList_store_new 51 rfl (.tmp 4) (.tmp 16) rfl _ layoutC rfl rfl info_layout rfl layout_one ?_))
  have hW0 : Below w.heap.size w (w1.alloc (.cells layoutC 51)) := hbw.alloc (by omega) _
  have hL : ∀ i, (w1.alloc (.cells layoutC 51)).cell? ⟨w1.heap.size, i, none⟩ = layoutC[i]? := fun i => World.cell?_alloc_new w1 _ _ i
  have hK0 : (w1.alloc (.cells layoutC 51)).heap[w.heap.size]? = some (.cells zeroV 26 (0, 0)) := (Below.heap_alloc w1 _ _ hz).trans hk0
  have hN : (w1.alloc (.cells layoutC 51)).heap.size = w1.heap.size + 1 := by simp
  generalize w1.alloc (.cells layoutC 51) = W2 at *
  have hg1 : w1.heap.size < W2.heap.size := by omega
  have hg0 : w.heap.size < W2.heap.size := by omega
  have HW0 := Lib.hid hW0
  have HK0 := Lib.hid hK0
  have l0 : W2.cell? ⟨w1.heap.size, 0, none⟩ = some (.int .u64 0) := (hL 0).trans rfl
  have l1 : W2.cell? ⟨w1.heap.size, 1, none⟩ = some (.int .u64 8) := (hL 1).trans rfl
  have l3 : W2.cell? ⟨w1.heap.size, 3, none⟩ = some (.int .u64 8) := (hL 3).trans rfl
  have l4 : W2.cell? ⟨w1.heap.size, 4, none⟩ = some (.int .u64 8) := (hL 4).trans rfl
  have l6 : W2.cell? ⟨w1.heap.size, 6, none⟩ = some (.int .u64 16) := (hL 6).trans rfl
  have l7 : W2.cell? ⟨w1.heap.size, 7, none⟩ = some (.int .u64 4) := (hL 7).trans rfl
  have l9 : W2.cell? ⟨w1.heap.size, 9, none⟩ = some (.int .u64 20) := (hL 9).trans rfl
  have l10 : W2.cell? ⟨w1.heap.size, 10, none⟩ = some (.int .u64 2) := (hL 10).trans rfl
  have l12 : W2.cell? ⟨w1.heap.size, 12, none⟩ = some (.int .u64 22) := (hL 12).trans rfl
  have l13 : W2.cell? ⟨w1.heap.size, 13, none⟩ = some (.int .u64 1) := (hL 13).trans rfl
  have l15 : W2.cell? ⟨w1.heap.size, 15, none⟩ = some (.int .u64 24) := (hL 15).trans rfl
  have l16 : W2.cell? ⟨w1.heap.size, 16, none⟩ = some (.int .u64 8) := (hL 16).trans rfl
  have l18 : W2.cell? ⟨w1.heap.size, 18, none⟩ = some (.int .u64 32) := (hL 18).trans rfl
  have l19 : W2.cell? ⟨w1.heap.size, 19, none⟩ = some (.int .u64 8) := (hL 19).trans rfl
  have l21 : W2.cell? ⟨w1.heap.size, 21, none⟩ = some (.int .u64 40) := (hL 21).trans rfl
  have l22 : W2.cell? ⟨w1.heap.size, 22, none⟩ = some (.int .u64 21) := (hL 22).trans rfl
  have v0 : W2.cell? ⟨b, off, none⟩ = some (.int .u64 (x0 : Int)) := (hW0.cell (p := ⟨b, off, none⟩) hbb).trans c0
  have v1 : W2.cell? ⟨b, off + 1, none⟩ = some (.int .u64 (x1 : Int)) := (hW0.cell (p := ⟨b, off + 1, none⟩) hbb).trans c1
  have hb0 : Below W2.heap.size W2 W2.drew := (Below.refl _ _).drew
  clear hW0 hL hN hcb hbw hz hk0 hK0 c0 c1
  go_wp2_with fail
  go_region_held3 (fun w' => w'.cell? ⟨w1.heap.size, 0, none⟩ = some (.int .u64 0) ∧ w'.cell? ⟨w1.heap.size, 1, none⟩ = some (.int .u64 8) ∧ w'.cell? ⟨w1.heap.size, 3, none⟩ = some (.int .u64 8) ∧ w'.cell? ⟨w1.heap.size, 4, none⟩ = some (.int .u64 8) ∧ w'.cell? ⟨w1.heap.size, 6, none⟩ = some (.int .u64 16) ∧ w'.cell? ⟨w1.heap.size, 7, none⟩ = some (.int .u64 4) ∧ w'.cell? ⟨w1.heap.size, 9, none⟩ = some (.int .u64 20) ∧ w'.cell? ⟨w1.heap.size, 10, none⟩ = some (.int .u64 2) ∧ w'.cell? ⟨w1.heap.size, 12, none⟩ = some (.int .u64 22) ∧ w'.cell? ⟨w1.heap.size, 13, none⟩ = some (.int .u64 1) ∧ w'.cell? ⟨w1.heap.size, 15, none⟩ = some (.int .u64 24) ∧ w'.cell? ⟨w1.heap.size, 16, none⟩ = some (.int .u64 8) ∧ w'.cell? ⟨w1.heap.size, 18, none⟩ = some (.int .u64 32) ∧ w'.cell? ⟨w1.heap.size, 19, none⟩ = some (.int .u64 8) ∧ w'.cell? ⟨w1.heap.size, 21, none⟩ = some (.int .u64 40) ∧ w'.cell? ⟨w1.heap.size, 22, none⟩ = some (.int .u64 21) ∧ w'.cell? ⟨b, off, none⟩ = some (.int .u64 (x0 : Int)) ∧ w'.cell? ⟨b, off + 1, none⟩ = some (.int .u64 (x1 : Int))) (first | exact keepD hb3 (by assumption) | go_keep)
    (first | (go_at_call 30; (with_reducible refine (get_r 16 4 (nW : Int) 16 4 x0 _ rfl rfl (by omega) (by omega) hx0 (Hn.out)).mono ?_); rintro e w3 ⟨rfl, hb3⟩; have hb4 : Below W2.heap.size W2 w3 := Below.trans (by assumption) (hb3.mono (Below.size (B := W2.heap.size) (by assumption)))) | (go_at_call 30; (with_reducible refine (get_r 20 2 (nI : Int) 20 2 x0 _ rfl rfl (by omega) (by omega) hx0 (Hi.out)).mono ?_); rintro e w3 ⟨rfl, hb3⟩; have hb4 : Below W2.heap.size W2 w3 := Below.trans (by assumption) (hb3.mono (Below.size (B := W2.heap.size) (by assumption)))))
  clear l0 l1 l3 l4 l6 l7 l9 l10 l12 l13 l15 l16 l18 l19 l21 l22 v0 v1
  have hb5 : Below W2.heap.size W2 w3 := by assumption
  have hk3 : w3.heap[w.heap.size]? = some (.cells zeroV 26 (0, 0)) := (hb5.block _ hg0).trans HK0.out
  have Hb5 := Lib.hid hb5
  clear hb5
  go_wp2_with (refine wpList_store_whole 26 rfl (.tmp 2) (.tmp 38) rfl w.heap.size zeroV rfl rfl 26 zeroV hk3 info_call rfl zero_one ?_; intro w6 hk6 hg6)
  exact ret_cell_tmp Tryd.results17 rfl hk6 Tryd.underlying26 rfl info_call rfl (DecPost_none (decC_len x0 x1 rest nW nI Hn.out Hi.out hne.out) (HW0.out.trans ((Hb5.out.mono HW0.out.size).trans (grownBy_below hg6 (Nat.le_refl _) (Nat.le_trans (Nat.le_of_lt hg0) Hb5.out.size)))))
end Go.Proofs.YtmjkljgccaipoaaDoor
