/- The contract of alive: the document's example holds. Condition: the table of TrailingZeros64 holds what its text says. -/
import Derived.Test.YtjlgkefklklphaaDoorN6
namespace Go.Proofs.YtjlgkefklklphaaDoor
open Go.RowKit

theorem TabZ.lt {w : World} (h : TabZ w) : 0 < w.heap.size := World.block_lt_of_cell? w ⟨0, 0, none⟩ (h 0 (by omega))
theorem TabZ.below {w w' : World} {B : Nat} (h : TabZ w) (hB : 0 < B) (hb : Below B w w') : TabZ w' := fun k hk => (hb.cell (p := ⟨0, k, none⟩) hB).trans (h k hk)
theorem grownBy_below {w w' : World} {g B : Nat} (h : w.grownBy w' (some g)) (hB : B ≤ g) (hs : B ≤ w.heap.size) : Below B w w' :=
  ⟨h.os, h.tape, h.output, h.size, fun k hk => h.block k (by omega) (fun e => by injection e with e; omega)⟩
theorem SlR_new (w : World) (cs : Array Value) (t : TypeId) : SlR (w.alloc (.cells cs t)) (some ⟨w.heap.size, 0, none⟩) cs.toList := fun _ =>
  ⟨w.heap.size, 0, rfl, by simp, fun j u hu => by
    rw [Nat.zero_add, World.cell?_alloc_new]
    simpa using hu⟩

theorem set_lit (on : Bool) (l : List Int) (m : Nat) (hm : l.length = m) (A : Option Addr) (cap : Nat) (W : World) (gm gw n : Nat) (ws vs : List Nat) (c : Int) (hv : setL on n ws l = vs) (hc : ((cntL on n ws l : Nat) : Int) = c) (h : MapAt W gm gw n ws) (hA : SlR W A (i64s l)) (hne : l ≠ [] → ∀ a, A = some a → a.block ≠ gw) (hl : m ≤ 9223372036854775807) :
    Calls Tryd.prog 8 #[.pointer (some ⟨gm, 0, none⟩), .bool on, .slice A m cap] W
      fun e w' => e = .returned (.int .i64 c) ∧ MapAt w' gm gw n vs ∧ W.grownBy w' (some gw) := by
  subst hv hc hm
  exact set_any on l A cap W gm gw n ws h hA hne hl
theorem first_lit (on : Bool) (W : World) (gm gw n : Nat) (ws : List Nat) (f : Nat) (F r : Int) (hF : F = (f : Int)) (hr : FirstS on n ws f r) (hf : f ≤ 2000000000) (h : MapAt W gm gw n ws) (hT : TabZ W) :
    Calls Tryd.prog 10 #[.pointer (some ⟨gm, 0, none⟩), .bool on, .int .i64 F] W fun e w' => e = .returned (.int .i64 r) ∧ w' = W := by
  subst hF
  refine (first_any on W gm gw n ws f hf h hT).mono fun e w' hp => ?_
  obtain ⟨r', he, hs, hw⟩ := hp
  exact ⟨by rw [he, FirstS_unique hs hr], hw⟩
theorem run_lit (on : Bool) (W : World) (gm gw n : Nat) (ws : List Nat) (f m : Nat) (F M : Int) (r : Bool) (hF : F = (f : Int)) (hM : M = (m : Int)) (hr : runB on n ws f m = r) (hf : f ≤ 2000000000) (hm : m ≤ 2000000000) (h : MapAt W gm gw n ws) (hT : TabZ W) :
    Calls Tryd.prog 11 #[.pointer (some ⟨gm, 0, none⟩), .bool on, .int .i64 F, .int .i64 M] W fun e w' => e = .returned (.bool r) ∧ w' = W := by
  subst hF hM hr
  exact run_any on W gm gw n ws f m hf hm h hT
theorem get_lit (W : World) (gm gw n : Nat) (ws : List Nat) (i : Int) (r : Bool) (hr : getB n ws i = r) (h : MapAt W gm gw n ws) : Calls Tryd.prog 12 #[.pointer (some ⟨gm, 0, none⟩), .int .i64 i] W fun e w' => e = .returned (.bool r) ∧ w' = W := by
  subst hr
  exact get_any W gm gw n ws i h
theorem count_lit (W : World) (gm gw n : Nat) (ws : List Nat) (c : Int) (hc : ((popL ws : Nat) : Int) = c) (h : MapAt W gm gw n ws) : Calls Tryd.prog 9 #[.pointer (some ⟨gm, 0, none⟩)] W fun e w' => e = .returned (.int .i64 c) ∧ w' = W := by
  subst hc
  exact count_any W gm gw n ws h
theorem len_lit (W : World) (gm gw n : Nat) (ws : List Nat) (c : Int) (hc : (n : Int) = c) (h : MapAt W gm gw n ws) : Calls Tryd.prog 13 #[.pointer (some ⟨gm, 0, none⟩)] W fun e w' => e = .returned (.int .i64 c) ∧ w' = W := by
  subst hc
  exact len_any W gm gw n ws h
theorem new_lit (n : Nat) (N : Int) (hN : N = (n : Int)) (w : World) (h : n ≤ 1048576) : Calls Tryd.prog 7 #[.int .i64 N] w fun e w' => e = .returned (.pointer (some ⟨w.heap.size + 1, 0, none⟩)) ∧ MapAt w' (w.heap.size + 1) w.heap.size n (List.replicate ((n + 63) / 64) 0) ∧ Below w.heap.size w w' := by
  subst hN
  exact new_yes n w h

theorem firstA : FirstS true 10 [520] 4 9 := .inr ⟨9, rfl, by omega, by omega, by decide, fun i h1 h2 => by
  have : i = 4 ∨ i = 5 ∨ i = 6 ∨ i = 7 ∨ i = 8 := by omega
  rcases this with rfl | rfl | rfl | rfl | rfl <;> decide⟩
theorem firstB : FirstS true 10 [520] 10 (-1) := .inl ⟨rfl, fun i h1 h2 => by omega⟩

set_option maxRecDepth 100000 in
set_option maxHeartbeats 1600000 in
theorem alive_any (w : World) (hT : TabZ w) : Calls Tryd.prog 6 #[] w fun e w' => e = .returned (.bool true) ∧ Below w.heap.size w w' := by
  have HT := Lib.hid hT
  have hlt := hT.lt
  clear hT
  go_enter Tryd.func6, Tryd.ntmps6
  go_wp2_with fail
  refine (new_lit 10 10 rfl _ (by omega)).mono ?_
  rintro e w1 ⟨rfl, hm1, hb1⟩
  have hm1' : MapAt w1 (w.heap.size + 1) w.heap.size 10 [0] := hm1
  have hl1 := hm1'.lt
  have HM1 := Lib.hid (hm1'.below ((Below.refl _ _).alloc (Nat.le_refl _) (.cells #[.int .i64 3, .int .i64 3, .int .i64 9, .int .i64 10] 3)))
  have HB1 := Lib.hid hb1
  clear hm1 hm1' hb1
  go_wp2_with fail
  refine (set_lit true [3, 3, 9, 10] 4 rfl _ _ _ _ w.heap.size 10 [0] [520] 2 (by decide) (by decide) HM1.out (SlR_new _ _ _) (by intro _ a ha; cases ha; simp; omega) (by omega)).mono ?_
  rintro e w2 ⟨rfl, hm2, hg2⟩
  have hb2 : Below w.heap.size w w2 := (HB1.out.alloc (by omega) _).trans (grownBy_below hg2 (Nat.le_refl _) (by simp; omega))
  have HM2 := Lib.hid hm2
  have HB2 := Lib.hid hb2
  have HT2 := Lib.hid (HT.out.below hlt hb2)
  clear hm2 hg2 hb2 HM1 HB1
  go_wp2_with fail
  refine (first_lit true _ _ w.heap.size 10 [520] 4 4 9 rfl firstA (by omega) HM2.out HT2.out).mono ?_
  rintro e w3 ⟨rfl, rfl⟩
  go_wp2_with fail
  refine (get_lit _ _ w.heap.size 10 [520] 3 true (by decide) HM2.out).mono ?_
  rintro e w3 ⟨rfl, rfl⟩
  go_wp2_with fail
  refine (get_lit _ _ w.heap.size 10 [520] 4 false (by decide) HM2.out).mono ?_
  rintro e w3 ⟨rfl, rfl⟩
  go_wp2_with fail
  refine (count_lit _ _ w.heap.size 10 [520] 2 (by decide +kernel) HM2.out).mono ?_
  rintro e w3 ⟨rfl, rfl⟩
  go_wp2_with fail
  refine (len_lit _ _ w.heap.size 10 [520] 10 rfl HM2.out).mono ?_
  rintro e w3 ⟨rfl, rfl⟩
  go_wp2_with fail
  refine (run_lit false _ _ w.heap.size 10 [520] 4 5 4 5 true rfl rfl (by decide) (by omega) (by omega) HM2.out HT2.out).mono ?_
  rintro e w3 ⟨rfl, rfl⟩
  go_wp2_with fail
  refine (run_lit false _ _ w.heap.size 10 [520] 4 6 4 6 false rfl rfl (by decide) (by omega) (by omega) HM2.out HT2.out).mono ?_
  rintro e w3 ⟨rfl, rfl⟩
  go_wp2_with fail
  refine (first_lit true _ _ w.heap.size 10 [520] 10 10 (-1) rfl firstB (by omega) HM2.out HT2.out).mono ?_
  rintro e w3 ⟨rfl, rfl⟩
  go_wp2_with fail
  refine (new_no (-1) _ (by omega)).mono ?_
  rintro e w3 ⟨rfl, rfl⟩
  go_wp2_with fail
  go_ret
  exact ⟨rfl, HB2.out⟩
end Go.Proofs.YtjlgkefklklphaaDoor
