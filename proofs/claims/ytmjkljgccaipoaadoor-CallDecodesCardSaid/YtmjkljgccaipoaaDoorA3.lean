/- The contract of head: the first word of a call that may be. -/
import Derived.Test.YtmjkljgccaipoaaDoorA2
import Derived.Deep.Cut
import Derived.Deep.CutRange
import Derived.Deep.DeepCutAuto
namespace Go.Proofs.YtmjkljgccaipoaaDoor
open Go.RowKit

/-- a number moved to its place -/
def pl (n P : Int) : Int := n * P

theorem put_at (at_ : Int) (k : Nat) (many n : Int) (w : World) (hk : at_ = (k : Int)) (h64 : k ≤ 63) (h0 : 0 ≤ n) (hn : n < 18446744073709551616) (h1 : n * 2 ^ k < 18446744073709551616) :
    Calls Tryd.prog 36 #[.agg #[.int .u64 at_, .int .u64 many], .int .i64 n] w fun e w' => e = .returned (.int .u64 (pl n (2 ^ k))) ∧ Below w.heap.size w w' := by
  subst hk
  have := put_any k many n w h0 hn (by rw [Nat.min_eq_left (by omega)]; exact h1)
  rw [Nat.min_eq_left (by omega)] at this
  exact this

theorem or_step (X P : Nat) (n : Int) (k m : Nat) (h0 : 0 ≤ n) (hn : n < 2 ^ m) (hX : X < 2 ^ k) (hP : P = 2 ^ k) (h64 : k + m ≤ 64) :
    bits .or .u64 (X : Int) (pl n (P : Int)) = ((X + n.toNat * P : Nat) : Int) ∧ X + n.toNat * P < 2 ^ (k + m) := by
  obtain ⟨n, rfl⟩ := Int.eq_ofNat_of_zero_le h0
  subst hP
  have hn' : n < 2 ^ m := by exact_mod_cast hn
  have hk := Nat.two_pow_pos k
  have h2 : n * 2 ^ k + 2 ^ k ≤ 2 ^ m * 2 ^ k := by
    have := Nat.mul_le_mul_right (2 ^ k) (show n + 1 ≤ 2 ^ m by omega)
    rw [Nat.add_mul, Nat.one_mul] at this
    exact this
  have h3 : 2 ^ m * 2 ^ k = 2 ^ (k + m) := by rw [Nat.add_comm, Nat.pow_add]
  have h4 := Nat.pow_le_pow_right (n := 2) (by omega) h64
  have e : pl (n : Int) ((2 ^ k : Nat) : Int) = ((n * 2 ^ k : Nat) : Int) := by unfold pl; push_cast; rfl
  have h5 : (2 : Nat) ^ 64 = 18446744073709551616 := by decide
  simp only [Int.toNat_natCast]
  rw [e, u64_or_nat _ _ (by omega) (by omega), or_join k _ _ hX (Nat.mul_mod_left _ _)]
  exact ⟨rfl, by omega⟩

/-- the first word, as it is put together -/
theorem head_word (c : Cal) (F : Int) (hF : F = if c.flag then 1 else 0) (h : mayC c = true) :
    bits .or .u64 (bits .or .u64 (bits .or .u64 (bits .or .u64 (bits .or .u64 (bits .or .u64 (bits .or .u64 (pl c.slot (2 ^ 0)) (pl c.op (2 ^ 8))) (pl (c.words.length : Int) (2 ^ 16))) (pl (c.items.length : Int) (2 ^ 20))) (pl F (2 ^ 22))) (pl c.a (2 ^ 24))) (pl c.b (2 ^ 32))) (pl c.c (2 ^ 40)) = ((headC c : Nat) : Int) := by
  rw [mayC_iff] at h
  obtain ⟨_, h1, h2, h3, h4, h5, h6, h7, h8, h9, h10, h11, h12⟩ := h
  have hF0 : 0 ≤ F ∧ F ≤ 1 := by rw [hF]; split <;> omega
  have e0 : pl c.slot (2 ^ 0) = ((c.slot.toNat : Nat) : Int) := by unfold pl; simp; omega
  have cst : ∀ k : Nat, (2 : Int) ^ k = ((2 ^ k : Nat) : Int) := fun k => by push_cast; rfl
  rw [e0, cst 8, cst 16, cst 20, cst 22, cst 24, cst 32, cst 40]
  obtain ⟨a1, b1⟩ := or_step c.slot.toNat (2 ^ 8) c.op 8 8 (by omega) (by omega) (by omega) rfl (by omega)
  rw [a1]
  obtain ⟨a2, b2⟩ := or_step _ (2 ^ 16) (c.words.length : Int) 16 4 (by omega) (by omega) b1 rfl (by omega)
  rw [a2]
  obtain ⟨a3, b3⟩ := or_step _ (2 ^ 20) (c.items.length : Int) 20 2 (by omega) (by omega) b2 rfl (by omega)
  rw [a3]
  obtain ⟨a4, b4⟩ := or_step _ (2 ^ 22) F 22 2 (by omega) (by omega) b3 rfl (by omega)
  rw [a4]
  obtain ⟨a5, b5⟩ := or_step _ (2 ^ 24) c.a 24 8 (by omega) (by omega) b4 rfl (by omega)
  rw [a5]
  obtain ⟨a6, b6⟩ := or_step _ (2 ^ 32) c.b 32 8 (by omega) (by omega) b5 rfl (by omega)
  rw [a6]
  obtain ⟨a7, b7⟩ := or_step _ (2 ^ 40) c.c 40 21 (by omega) (by omega) b6 rfl (by omega)
  rw [a7]
  unfold headC
  cases hg : c.flag <;> simp [hg] at hF ⊢ <;> subst hF <;> omega

/-- a cell that was there ahead of a call that only makes blocks -/
theorem keep1 {W w3 : World} {g i : Nat} {v : Value} (hb : Below W.heap.size W w3) (h : W.cell? ⟨g, i, none⟩ = some v) : w3.cell? ⟨g, i, none⟩ = some v :=
  (hb.cell (p := ⟨g, i, none⟩) (World.block_lt_of_cell? W ⟨g, i, none⟩ h)).trans h

theorem keepS {c : Cal} {A B : Option Addr} {cw ci g0 g1 : Nat} {W w3 : World} (hb : Below W.heap.size W w3) (h : W.cell? ⟨g0, 0, none⟩ = some (.int .i64 c.op) ∧ W.cell? ⟨g0, 1, none⟩ = some (.int .i64 c.slot) ∧ W.cell? ⟨g0, 2, none⟩ = some (.int .i64 c.a) ∧ W.cell? ⟨g0, 3, none⟩ = some (.int .i64 c.b) ∧ W.cell? ⟨g0, 4, none⟩ = some (.int .i64 c.c) ∧ W.cell? ⟨g0, 7, none⟩ = some (.slice A c.words.length cw) ∧ W.cell? ⟨g0, 8, none⟩ = some (.slice B c.items.length ci) ∧ W.cell? ⟨g1, 0, none⟩ = some (.int .u64 0) ∧ W.cell? ⟨g1, 1, none⟩ = some (.int .u64 8) ∧ W.cell? ⟨g1, 3, none⟩ = some (.int .u64 8) ∧ W.cell? ⟨g1, 4, none⟩ = some (.int .u64 8) ∧ W.cell? ⟨g1, 6, none⟩ = some (.int .u64 16) ∧ W.cell? ⟨g1, 7, none⟩ = some (.int .u64 4) ∧ W.cell? ⟨g1, 9, none⟩ = some (.int .u64 20) ∧ W.cell? ⟨g1, 10, none⟩ = some (.int .u64 2) ∧ W.cell? ⟨g1, 12, none⟩ = some (.int .u64 22) ∧ W.cell? ⟨g1, 13, none⟩ = some (.int .u64 1) ∧ W.cell? ⟨g1, 15, none⟩ = some (.int .u64 24) ∧ W.cell? ⟨g1, 16, none⟩ = some (.int .u64 8) ∧ W.cell? ⟨g1, 18, none⟩ = some (.int .u64 32) ∧ W.cell? ⟨g1, 19, none⟩ = some (.int .u64 8) ∧ W.cell? ⟨g1, 21, none⟩ = some (.int .u64 40) ∧ W.cell? ⟨g1, 22, none⟩ = some (.int .u64 21)) :
    w3.cell? ⟨g0, 0, none⟩ = some (.int .i64 c.op) ∧ w3.cell? ⟨g0, 1, none⟩ = some (.int .i64 c.slot) ∧ w3.cell? ⟨g0, 2, none⟩ = some (.int .i64 c.a) ∧ w3.cell? ⟨g0, 3, none⟩ = some (.int .i64 c.b) ∧ w3.cell? ⟨g0, 4, none⟩ = some (.int .i64 c.c) ∧ w3.cell? ⟨g0, 7, none⟩ = some (.slice A c.words.length cw) ∧ w3.cell? ⟨g0, 8, none⟩ = some (.slice B c.items.length ci) ∧ w3.cell? ⟨g1, 0, none⟩ = some (.int .u64 0) ∧ w3.cell? ⟨g1, 1, none⟩ = some (.int .u64 8) ∧ w3.cell? ⟨g1, 3, none⟩ = some (.int .u64 8) ∧ w3.cell? ⟨g1, 4, none⟩ = some (.int .u64 8) ∧ w3.cell? ⟨g1, 6, none⟩ = some (.int .u64 16) ∧ w3.cell? ⟨g1, 7, none⟩ = some (.int .u64 4) ∧ w3.cell? ⟨g1, 9, none⟩ = some (.int .u64 20) ∧ w3.cell? ⟨g1, 10, none⟩ = some (.int .u64 2) ∧ w3.cell? ⟨g1, 12, none⟩ = some (.int .u64 22) ∧ w3.cell? ⟨g1, 13, none⟩ = some (.int .u64 1) ∧ w3.cell? ⟨g1, 15, none⟩ = some (.int .u64 24) ∧ w3.cell? ⟨g1, 16, none⟩ = some (.int .u64 8) ∧ w3.cell? ⟨g1, 18, none⟩ = some (.int .u64 32) ∧ w3.cell? ⟨g1, 19, none⟩ = some (.int .u64 8) ∧ w3.cell? ⟨g1, 21, none⟩ = some (.int .u64 40) ∧ w3.cell? ⟨g1, 22, none⟩ = some (.int .u64 21) :=
  ⟨keep1 hb (h.1), keep1 hb (h.2.1), keep1 hb (h.2.2.1), keep1 hb (h.2.2.2.1), keep1 hb (h.2.2.2.2.1), keep1 hb (h.2.2.2.2.2.1), keep1 hb (h.2.2.2.2.2.2.1), keep1 hb (h.2.2.2.2.2.2.2.1), keep1 hb (h.2.2.2.2.2.2.2.2.1), keep1 hb (h.2.2.2.2.2.2.2.2.2.1), keep1 hb (h.2.2.2.2.2.2.2.2.2.2.1), keep1 hb (h.2.2.2.2.2.2.2.2.2.2.2.1), keep1 hb (h.2.2.2.2.2.2.2.2.2.2.2.2.1), keep1 hb (h.2.2.2.2.2.2.2.2.2.2.2.2.2.1), keep1 hb (h.2.2.2.2.2.2.2.2.2.2.2.2.2.2.1), keep1 hb (h.2.2.2.2.2.2.2.2.2.2.2.2.2.2.2.1), keep1 hb (h.2.2.2.2.2.2.2.2.2.2.2.2.2.2.2.2.1), keep1 hb (h.2.2.2.2.2.2.2.2.2.2.2.2.2.2.2.2.2.1), keep1 hb (h.2.2.2.2.2.2.2.2.2.2.2.2.2.2.2.2.2.2.1), keep1 hb (h.2.2.2.2.2.2.2.2.2.2.2.2.2.2.2.2.2.2.2.1), keep1 hb (h.2.2.2.2.2.2.2.2.2.2.2.2.2.2.2.2.2.2.2.2.1), keep1 hb (h.2.2.2.2.2.2.2.2.2.2.2.2.2.2.2.2.2.2.2.2.2.1), keep1 hb (h.2.2.2.2.2.2.2.2.2.2.2.2.2.2.2.2.2.2.2.2.2.2)⟩

set_option maxRecDepth 100000 in
set_option maxHeartbeats 12800000 in
theorem head_any (c : Cal) (A B : Option Addr) (cw ci : Nat) (w : World) (h : mayC c = true) :
    Calls Tryd.prog 28 #[.agg #[.int .i64 c.op, .int .i64 c.slot, .int .i64 c.a, .int .i64 c.b, .int .i64 c.c, .bool c.flag, .int .u64 (c.x : Int), .slice A c.words.length cw, .slice B c.items.length ci]] w
      fun e w' => e = .returned (.int .u64 ((headC c : Nat) : Int)) ∧ Below w.heap.size w w' := by
  have Hh := Lib.hid (fun F hF => head_word c F hF h)
  obtain ⟨F, hF⟩ : ∃ F : Int, F = if c.flag then 1 else 0 := ⟨_, rfl⟩
  have HF1 := Lib.hid (show c.flag = true → F = 1 from fun e => by rw [hF, if_pos e])
  have HF0 := Lib.hid (show c.flag = false → F = 0 from fun e => by rw [hF, e]; rfl)
  have Hw := Lib.hid (Hh.out F hF)
  have k0 : 0 ≤ F := by rw [hF]; split <;> omega
  have k1 : F ≤ 1 := by rw [hF]; split <;> omega
  clear Hh hF
  rw [mayC_iff] at h
  obtain ⟨_, h1, h2, h3, h4, h5, h6, h7, h8, h9, h10, h11, h12⟩ := h
  go_enter Tryd.func28, Tryd.ntmps28
  go_upto_if 7 with (first
    | (go_at_call 23; refine (layout_any _).mono ?_; rintro e w1 ⟨rfl, hb⟩; obtain ⟨hbw, hcb, hz⟩ := box_after hb; clear hb; have x5 : w1.cell? ⟨w.heap.size, 5, none⟩ = some (.bool c.flag) := (hcb 5).trans rfl)
    | (refine wpList_store_new 51 rfl (.tmp 3) (.tmp 5) rfl _ layoutC rfl rfl info_layout rfl layout_one ?_))
  go_cut [4] from 8 to 63 (fun s4 wr => s4 = .int .i64 F ∧ wr = w1.alloc (.cells layoutC 51))
  case first =>
    go_wp2
    all_goals go_meet
    case rel => exact ⟨by rw [HF1.out (by assumption)], rfl⟩
    case rel => exact ⟨by rw [HF0.out (by assumption)], rfl⟩
  case rest =>
    obtain ⟨rfl, rfl⟩ := hcut
    have hW0 : Below w.heap.size w (w1.alloc (.cells layoutC 51)) := hbw.alloc (by omega) _
    have hL : ∀ i, (w1.alloc (.cells layoutC 51)).cell? ⟨w1.heap.size, i, none⟩ = layoutC[i]? := fun i => World.cell?_alloc_new w1 _ _ i
    have hX := fun i => (World.cell?_alloc_lt w1 (.cells layoutC 51) ⟨w.heap.size, i, none⟩ hz).trans (hcb i)
    have hN : (w1.alloc (.cells layoutC 51)).heap.size = w1.heap.size + 1 := by simp
    generalize w1.alloc (.cells layoutC 51) = W2 at *
    have hg1 : w1.heap.size < W2.heap.size := by omega
    have hg0 : w.heap.size < W2.heap.size := by omega
    have HW0 := Lib.hid hW0
    have x0 : W2.cell? ⟨w.heap.size, 0, none⟩ = some (.int .i64 c.op) := (hX 0).trans rfl
    have x1 : W2.cell? ⟨w.heap.size, 1, none⟩ = some (.int .i64 c.slot) := (hX 1).trans rfl
    have x2 : W2.cell? ⟨w.heap.size, 2, none⟩ = some (.int .i64 c.a) := (hX 2).trans rfl
    have x3 : W2.cell? ⟨w.heap.size, 3, none⟩ = some (.int .i64 c.b) := (hX 3).trans rfl
    have x4 : W2.cell? ⟨w.heap.size, 4, none⟩ = some (.int .i64 c.c) := (hX 4).trans rfl
    have x7 : W2.cell? ⟨w.heap.size, 7, none⟩ = some (.slice A c.words.length cw) := (hX 7).trans rfl
    have x8 : W2.cell? ⟨w.heap.size, 8, none⟩ = some (.slice B c.items.length ci) := (hX 8).trans rfl
    have l0 : W2.cell? ⟨w1.heap.size, 0, none⟩ = some (.int .u64 0) := (hL 0).trans rfl
    have l1 : W2.cell? ⟨w1.heap.size, 1, none⟩ = some (.int .u64 8) := (hL 1).trans rfl
    have l3 : W2.cell? ⟨w1.heap.size, 3, none⟩ = some (.int .u64 8) := (hL 3).trans rfl
    have l4 : W2.cell? ⟨w1.heap.size, 4, none⟩ = some (.int .u64 8) := (hL 4).trans rfl
    have l6 : W2.cell? ⟨w1.heap.size, 6, none⟩ = some (.int .u64 16) := (hL 6).trans rfl
    have l7 : W2.cell? ⟨w1.heap.size, 7, none⟩ = some (.int .u64 4) := (hL 7).trans rfl
    have l9 : W2.cell? ⟨w1.heap.size, 9, none⟩ = some (.int .u64 20) := (hL 9).trans rfl
    have l10 : W2.cell? ⟨w1.heap.size, 10, none⟩ = some (.int .u64 2) := (hL 10).trans rfl
    have l12 : W2.cell? ⟨w1.heap.size, 12, none⟩ = some (.int .u64 22) := (hL 12).trans rfl
    have l13 : W2.cell? ⟨w1.heap.size, 13, none⟩ = some (.int .u64 1) := (hL 13).trans rfl
    have l15 : W2.cell? ⟨w1.heap.size, 15, none⟩ = some (.int .u64 24) := (hL 15).trans rfl
    have l16 : W2.cell? ⟨w1.heap.size, 16, none⟩ = some (.int .u64 8) := (hL 16).trans rfl
    have l18 : W2.cell? ⟨w1.heap.size, 18, none⟩ = some (.int .u64 32) := (hL 18).trans rfl
    have l19 : W2.cell? ⟨w1.heap.size, 19, none⟩ = some (.int .u64 8) := (hL 19).trans rfl
    have l21 : W2.cell? ⟨w1.heap.size, 21, none⟩ = some (.int .u64 40) := (hL 21).trans rfl
    have l22 : W2.cell? ⟨w1.heap.size, 22, none⟩ = some (.int .u64 21) := (hL 22).trans rfl
    have hb0 : Below W2.heap.size W2 W2.drew := (Below.refl _ _).drew
    clear hW0 hL hX hN hcb hbw hz x5
    go_wp2_with fail
    go_region_held3 (fun w' => w'.cell? ⟨w.heap.size, 0, none⟩ = some (.int .i64 c.op) ∧ w'.cell? ⟨w.heap.size, 1, none⟩ = some (.int .i64 c.slot) ∧ w'.cell? ⟨w.heap.size, 2, none⟩ = some (.int .i64 c.a) ∧ w'.cell? ⟨w.heap.size, 3, none⟩ = some (.int .i64 c.b) ∧ w'.cell? ⟨w.heap.size, 4, none⟩ = some (.int .i64 c.c) ∧ w'.cell? ⟨w.heap.size, 7, none⟩ = some (.slice A c.words.length cw) ∧ w'.cell? ⟨w.heap.size, 8, none⟩ = some (.slice B c.items.length ci) ∧ w'.cell? ⟨w1.heap.size, 0, none⟩ = some (.int .u64 0) ∧ w'.cell? ⟨w1.heap.size, 1, none⟩ = some (.int .u64 8) ∧ w'.cell? ⟨w1.heap.size, 3, none⟩ = some (.int .u64 8) ∧ w'.cell? ⟨w1.heap.size, 4, none⟩ = some (.int .u64 8) ∧ w'.cell? ⟨w1.heap.size, 6, none⟩ = some (.int .u64 16) ∧ w'.cell? ⟨w1.heap.size, 7, none⟩ = some (.int .u64 4) ∧ w'.cell? ⟨w1.heap.size, 9, none⟩ = some (.int .u64 20) ∧ w'.cell? ⟨w1.heap.size, 10, none⟩ = some (.int .u64 2) ∧ w'.cell? ⟨w1.heap.size, 12, none⟩ = some (.int .u64 22) ∧ w'.cell? ⟨w1.heap.size, 13, none⟩ = some (.int .u64 1) ∧ w'.cell? ⟨w1.heap.size, 15, none⟩ = some (.int .u64 24) ∧ w'.cell? ⟨w1.heap.size, 16, none⟩ = some (.int .u64 8) ∧ w'.cell? ⟨w1.heap.size, 18, none⟩ = some (.int .u64 32) ∧ w'.cell? ⟨w1.heap.size, 19, none⟩ = some (.int .u64 8) ∧ w'.cell? ⟨w1.heap.size, 21, none⟩ = some (.int .u64 40) ∧ w'.cell? ⟨w1.heap.size, 22, none⟩ = some (.int .u64 21)) (first | exact keepS hb3 (by assumption) | go_keep)
      (first | (go_at_call 36; (with_reducible refine (put_at 0 0 _ _ _ rfl (by omega) (by omega) (by omega) (by omega)).mono ?_); rintro e w3 ⟨rfl, hb3⟩; have hb4 : Below W2.heap.size W2 w3 := Below.trans (by assumption) (hb3.mono (Below.size (B := W2.heap.size) (by assumption)))) | (go_at_call 36; (with_reducible refine (put_at 8 8 _ _ _ rfl (by omega) (by omega) (by omega) (by omega)).mono ?_); rintro e w3 ⟨rfl, hb3⟩; have hb4 : Below W2.heap.size W2 w3 := Below.trans (by assumption) (hb3.mono (Below.size (B := W2.heap.size) (by assumption)))) | (go_at_call 36; (with_reducible refine (put_at 16 16 _ _ _ rfl (by omega) (by omega) (by omega) (by omega)).mono ?_); rintro e w3 ⟨rfl, hb3⟩; have hb4 : Below W2.heap.size W2 w3 := Below.trans (by assumption) (hb3.mono (Below.size (B := W2.heap.size) (by assumption)))) | (go_at_call 36; (with_reducible refine (put_at 20 20 _ _ _ rfl (by omega) (by omega) (by omega) (by omega)).mono ?_); rintro e w3 ⟨rfl, hb3⟩; have hb4 : Below W2.heap.size W2 w3 := Below.trans (by assumption) (hb3.mono (Below.size (B := W2.heap.size) (by assumption)))) | (go_at_call 36; (with_reducible refine (put_at 22 22 _ _ _ rfl (by omega) (by omega) (by omega) (by omega)).mono ?_); rintro e w3 ⟨rfl, hb3⟩; have hb4 : Below W2.heap.size W2 w3 := Below.trans (by assumption) (hb3.mono (Below.size (B := W2.heap.size) (by assumption)))) | (go_at_call 36; (with_reducible refine (put_at 24 24 _ _ _ rfl (by omega) (by omega) (by omega) (by omega)).mono ?_); rintro e w3 ⟨rfl, hb3⟩; have hb4 : Below W2.heap.size W2 w3 := Below.trans (by assumption) (hb3.mono (Below.size (B := W2.heap.size) (by assumption)))) | (go_at_call 36; (with_reducible refine (put_at 32 32 _ _ _ rfl (by omega) (by omega) (by omega) (by omega)).mono ?_); rintro e w3 ⟨rfl, hb3⟩; have hb4 : Below W2.heap.size W2 w3 := Below.trans (by assumption) (hb3.mono (Below.size (B := W2.heap.size) (by assumption)))) | (go_at_call 36; (with_reducible refine (put_at 40 40 _ _ _ rfl (by omega) (by omega) (by omega) (by omega)).mono ?_); rintro e w3 ⟨rfl, hb3⟩; have hb4 : Below W2.heap.size W2 w3 := Below.trans (by assumption) (hb3.mono (Below.size (B := W2.heap.size) (by assumption)))))
    go_wp2
    go_ret
    exact ⟨ret_int Hw.out, HW0.out.trans (Below.mono (B := W2.heap.size) (by assumption) HW0.out.size)⟩
end Go.Proofs.YtmjkljgccaipoaaDoor
