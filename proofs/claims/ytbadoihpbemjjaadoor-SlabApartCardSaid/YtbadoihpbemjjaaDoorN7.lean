/- The contract of alive: the document's example holds. Condition: the table of TrailingZeros64 holds what its text says. -/
import Derived.Test.YtbadoihpbemjjaaDoorN5
namespace Go.Proofs.YtbadoihpbemjjaaDoor
open Go.RowKit

theorem TabZ.lt {w : World} (h : TabZ w) : 1 < w.heap.size := World.block_lt_of_cell? w ⟨1, 0, none⟩ (h 0 (by omega))
theorem TabZ.below {w w' : World} {B : Nat} (h : TabZ w) (hB : 1 < B) (hb : Below B w w') : TabZ w' := fun k hk => (hb.cell (p := ⟨1, k, none⟩) hB).trans (h k hk)
theorem grownBy_below {w w' : World} {g B : Nat} (h : w.grownBy w' (some g)) (hB : B ≤ g) (hs : B ≤ w.heap.size) : Below B w w' :=
  ⟨h.os, h.tape, h.output, h.size, fun k hk => h.block k (by omega) (fun e => by injection e with e; omega)⟩
theorem SlR_new (w : World) (cs : Array Value) (t : TypeId) : SlR (w.alloc (.cells cs t)) (some ⟨w.heap.size, 0, none⟩) cs.toList := fun _ =>
  ⟨w.heap.size, 0, rfl, by simp, fun j u hu => by
    rw [Nat.zero_add, World.cell?_alloc_new]
    simpa using hu⟩

theorem set_lit (on : Bool) (l : List Int) (m : Nat) (hm : l.length = m) (A : Option Addr) (cap : Nat) (W : World) (gm gw n : Nat) (ws vs : List Nat) (c : Int) (hv : setL on n ws l = vs) (hc : ((cntL on n ws l : Nat) : Int) = c) (h : MapAt W gm gw n ws) (hA : SlR W A (i64s l)) (hne : l ≠ [] → ∀ a, A = some a → a.block ≠ gw) (hl : m ≤ 9223372036854775807) :
    Calls Tryd.prog 33 #[.pointer (some ⟨gm, 0, none⟩), .bool on, .slice A m cap] W
      fun e w' => e = .returned (.int .i64 c) ∧ MapAt w' gm gw n vs ∧ W.grownBy w' (some gw) := by
  subst hv hc hm
  exact set_any on l A cap W gm gw n ws h hA hne hl
theorem first_lit (on : Bool) (W : World) (gm gw n : Nat) (ws : List Nat) (f : Nat) (F r : Int) (hF : F = (f : Int)) (hr : FirstS on n ws f r) (hf : f ≤ 2000000000) (h : MapAt W gm gw n ws) (hT : TabZ W) :
    Calls Tryd.prog 34 #[.pointer (some ⟨gm, 0, none⟩), .bool on, .int .i64 F] W fun e w' => e = .returned (.int .i64 r) ∧ w' = W := by
  subst hF
  refine (first_any on W gm gw n ws f hf h hT).mono fun e w' hp => ?_
  obtain ⟨r', he, hs, hw⟩ := hp
  exact ⟨by rw [he, FirstS_unique hs hr], hw⟩
theorem get_lit (W : World) (gm gw n : Nat) (ws : List Nat) (i : Int) (r : Bool) (hr : getB n ws i = r) (h : MapAt W gm gw n ws) : Calls Tryd.prog 56 #[.pointer (some ⟨gm, 0, none⟩), .int .i64 i] W fun e w' => e = .returned (.bool r) ∧ w' = W := by
  subst hr
  exact get_any W gm gw n ws i h
theorem count_lit (W : World) (gm gw n : Nat) (ws : List Nat) (c : Int) (hc : ((popL ws : Nat) : Int) = c) (h : MapAt W gm gw n ws) : Calls Tryd.prog 40 #[.pointer (some ⟨gm, 0, none⟩)] W fun e w' => e = .returned (.int .i64 c) ∧ w' = W := by
  subst hc
  exact count_any W gm gw n ws h
theorem len_lit (W : World) (gm gw n : Nat) (ws : List Nat) (c : Int) (hc : (n : Int) = c) (h : MapAt W gm gw n ws) : Calls Tryd.prog 55 #[.pointer (some ⟨gm, 0, none⟩)] W fun e w' => e = .returned (.int .i64 c) ∧ w' = W := by
  subst hc
  exact len_any W gm gw n ws h
theorem new_lit (n : Nat) (N : Int) (hN : N = (n : Int)) (w : World) (h : n ≤ 1048576) : Calls Tryd.prog 32 #[.int .i64 N] w fun e w' => e = .returned (.pointer (some ⟨w.heap.size + 1, 0, none⟩)) ∧ MapAt w' (w.heap.size + 1) w.heap.size n (List.replicate ((n + 63) / 64) 0) ∧ Below w.heap.size w w' := by
  subst hN
  exact new_yes n w h
end Go.Proofs.YtbadoihpbemjjaaDoor
