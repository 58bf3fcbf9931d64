/- The walk of MapFirst: true. Condition: the table of TrailingZeros64 holds what its text says; the bits' numbers are read. -/
import Derived.Test.YtjlgkefklklphaaDoorN7
namespace Go.Proofs.YtjlgkefklklphaaDoor
open Go.RowKit

theorem SlR.ne {w : World} {A : Option Addr} {l : List Int} (h : SlR w A (i64s l)) {g : Nat} (hg : w.heap.size ≤ g) : l ≠ [] → ∀ a, A = some a → a.block ≠ g := fun hne a ha => by
  obtain ⟨b, off, e, hlt, _⟩ := h (fun e => hne (by have := i64s_length l; rw [e] at this; exact List.eq_nil_of_length_eq_zero this.symm))
  rw [ha] at e
  cases e
  show b ≠ g
  omega
theorem run_none {on : Bool} {n f : Nat} {ws : List Nat} (h : ∀ i, f ≤ i → i < n → bitW ws i ≠ on) (hf : f ≤ n) : runB (!on) n ws (f : Int) ((n - f : Nat) : Int) = true := by
  have hne : ∀ b c : Bool, b ≠ c → b = !c := by decide
  simp only [runB, Bool.and_eq_true, decide_eq_true_eq, List.all_eq_true, List.mem_range, beq_iff_eq, Int.toNat_natCast]
  exact ⟨by omega, fun j hj => hne _ _ (h _ (by omega) (by omega))⟩
theorem run_upto {on : Bool} {n f k : Nat} {ws : List Nat} (h : ∀ i, f ≤ i → i < k → bitW ws i ≠ on) (hf : f ≤ k) (hk : k < n) : runB (!on) n ws (f : Int) ((k - f : Nat) : Int) = true := by
  have hne : ∀ b c : Bool, b ≠ c → b = !c := by decide
  simp only [runB, Bool.and_eq_true, decide_eq_true_eq, List.all_eq_true, List.mem_range, beq_iff_eq, Int.toNat_natCast]
  exact ⟨by omega, fun j hj => hne _ _ (h _ (by omega) (by omega))⟩
theorem run_past {on : Bool} {n f k : Nat} {ws : List Nat} (h : bitW ws k = on) (hf : f ≤ k) : runB (!on) n ws (f : Int) ((k - f + 1 : Nat) : Int) = false := by
  cases hr : runB (!on) n ws (f : Int) ((k - f + 1 : Nat) : Int) with
  | false => rfl
  | true =>
    exfalso
    simp only [runB, Bool.and_eq_true, decide_eq_true_eq, List.all_eq_true, List.mem_range, beq_iff_eq, Int.toNat_natCast] at hr
    have := hr.2 (k - f) (by omega)
    rw [show f + (k - f) = k by omega, h] at this
    cases on <;> cases this

/-- a map lies there, the table too, and the way here -/
def StM (w W : World) (gm gw n : Nat) (ws : List Nat) : Prop := Below w.heap.size w W ∧ MapAt W gm gw n ws ∧ TabZ W
theorem StM.step {w W W' : World} {gm gw n : Nat} {ws : List Nat} (h : StM w W gm gw n ws) (hb : Below W.heap.size W W') : StM w W' gm gw n ws :=
  ⟨h.1.trans (hb.mono h.1.size), h.2.1.below hb, h.2.2.below h.2.2.lt hb⟩

set_option maxRecDepth 100000 in
set_option maxHeartbeats 1600000 in
theorem mfirst_long (n f : Nat) (on : Bool) (l : List Int) (m : Nat) (A : Option Addr) (cap : Nat) (w : World) (hT : TabZ w) (hl : (300 : Int) < (m : Int)) :
    Calls Tryd.prog 4 #[.int .u16 (n : Int), .slice A m cap, .bool on, .int .u16 (f : Int)] w fun e w' => e = .returned (.bool true) ∧ Below w.heap.size w w' := by
  have HT := Lib.hid hT
  clear hT
  go_enter Tryd.func4, Tryd.ntmps4
  go_wp2_with fail
  refine (alive_any _ HT.out).mono ?_
  rintro e w1 ⟨rfl, hb1⟩
  have Hb1 := Lib.hid hb1
  clear hb1
  go_wp2_with fail
  go_ret
  exact ⟨rfl, Hb1.out⟩

set_option maxRecDepth 100000 in
set_option maxHeartbeats 1600000 in
theorem mfirst_short (n f : Nat) (on : Bool) (l : List Int) (m : Nat) (hm : l.length = m) (A : Option Addr) (cap : Nat) (w : World) (hn : n ≤ 65535) (hf : f ≤ 65535) (hT : TabZ w) (hA : SlR w A (i64s l)) (hl : (m : Int) ≤ 300) :
    Calls Tryd.prog 4 #[.int .u16 (n : Int), .slice A m cap, .bool on, .int .u16 (f : Int)] w fun e w' => e = .returned (.bool true) ∧ Below w.heap.size w w' := by
  have HT := Lib.hid hT
  have HA := Lib.hid hA
  have Hm := Lib.hid hm
  have hlt := hT.lt
  have n0 : (n : Int) ≤ 65535 := by omega
  have f0 : (f : Int) ≤ 65535 := by omega
  have n9 : (0 : Int) ≤ (n : Int) := by omega
  have f9 : (0 : Int) ≤ (f : Int) := by omega
  clear hT hA hm
  go_enter Tryd.func4, Tryd.ntmps4
  go_wp2_with fail
  refine (alive_any _ HT.out).mono ?_
  rintro e w1 ⟨rfl, hb1⟩
  have Hb1 := Lib.hid hb1
  have HT1 := Lib.hid (HT.out.below hlt hb1)
  have HA1 := Lib.hid (HA.out.below hb1)
  clear hb1
  go_wp2_with fail
  refine (new_lit n (n : Int) rfl _ (by omega)).mono ?_
  rintro e w2 ⟨rfl, hm2, hb2⟩
  have hl2 := hm2.lt
  have HM2 := Lib.hid hm2
  have Hb2 := Lib.hid (Hb1.out.trans (hb2.mono Hb1.out.size))
  have HT2 := Lib.hid (HT1.out.below HT1.out.lt hb2)
  have HA2 := Lib.hid (HA1.out.below hb2)
  have hs1 := Hb1.out.size
  obtain ⟨ws, hws⟩ : ∃ ws, setL true n (List.replicate ((n + 63) / 64) 0) l = ws := ⟨_, rfl⟩
  obtain ⟨c, hc⟩ : ∃ c : Int, ((cntL true n (List.replicate ((n + 63) / 64) 0) l : Nat) : Int) = c := ⟨_, rfl⟩
  clear hm2 hb2
  go_wp2_with fail
  refine (set_lit true l m Hm.out _ _ _ _ w1.heap.size n _ ws c hws hc HM2.out HA2.out (HA1.out.ne (Nat.le_refl _)) (by omega)).mono ?_
  rintro e w3 ⟨rfl, hm3, hg3⟩
  have hb3 : Below w1.heap.size w2 w3 := grownBy_below hg3 (Nat.le_refl _) (by omega)
  have St3 : Hid (StM w w3 (w1.heap.size + 1) w1.heap.size n ws) := Lib.hid ⟨Hb2.out.trans (hb3.mono hs1), hm3, HT2.out.below HT1.out.lt hb3⟩
  clear hm3 hg3 hb3 HM2 Hb2 HT2 HA2 HA1 Hb1 hws hc
  go_wp2_with fail
  refine (first_any on _ _ w1.heap.size n ws f (by omega) St3.out.2.1 St3.out.2.2).mono ?_
  rintro e w4 ⟨r, rfl, hr, rfl⟩
  rcases hr with ⟨rfl, hr⟩ | ⟨k, rfl, hr1, hr2, hr3, hr4⟩
  · by_cases hfn : f ≤ n
    · have R1 := Lib.hid (run_none hr hfn)
      have g1 : (f : Int) ≤ (n : Int) := by omega
      have g2 : ((n - f : Nat) : Int) = (n : Int) - (f : Int) := by omega
      clear hr
      go_wp2_with fail
      refine (alive_any _ St3.out.2.2).mono ?_
      rintro e w5 ⟨rfl, hb5⟩
      have St5 := Lib.hid (St3.out.step hb5)
      clear hb5 St3
      go_wp2_with fail
      refine (run_lit (!on) _ _ w1.heap.size n ws f (n - f) _ _ true rfl (by omega) R1.out (by omega) (by omega) St5.out.2.1 St5.out.2.2).mono ?_
      rintro e w6 ⟨rfl, rfl⟩
      go_wp2_with fail
      go_ret
      exact ⟨ret_bool (by simp), St5.out.1⟩
    · have g1 : (n : Int) < (f : Int) := by omega
      clear hr
      go_wp2_with fail
      refine (alive_any _ St3.out.2.2).mono ?_
      rintro e w5 ⟨rfl, hb5⟩
      have St5 := Lib.hid (St3.out.step hb5)
      clear hb5 St3
      go_wp2_with fail
      go_ret
      exact ⟨ret_bool (by simp), St5.out.1⟩
  · have R1 := Lib.hid (run_upto hr4 hr1 hr2)
    have R2 := Lib.hid (run_past (n := n) hr3 hr1)
    have G1 : Hid (getB n ws (k : Int) = on) := Lib.hid (by simp [getB, hr2, hr3])
    have g1 : (f : Int) ≤ (k : Int) := by omega
    have g2 : (k : Int) < (n : Int) := by omega
    have g3 : (0 : Int) ≤ (k : Int) := by omega
    have g4 : ¬ (k : Int) < 0 := by omega
    have g5 : (k : Int) ≤ 65535 := by omega
    clear hr3 hr4
    go_wp2_with fail
    refine (alive_any _ St3.out.2.2).mono ?_
    rintro e w5 ⟨rfl, hb5⟩
    have St5 := Lib.hid (St3.out.step hb5)
    clear hb5 St3
    go_wp2_with fail
    refine (get_lit _ _ w1.heap.size n ws (k : Int) on G1.out St5.out.2.1).mono ?_
    rintro e w6 ⟨rfl, rfl⟩
    go_wp2_with fail
    refine (run_lit (!on) _ _ w1.heap.size n ws f (k - f) _ _ true rfl (by omega) R1.out (by omega) (by omega) St5.out.2.1 St5.out.2.2).mono ?_
    rintro e w7 ⟨rfl, rfl⟩
    go_wp2_with fail
    refine (run_lit (!on) _ _ w1.heap.size n ws f (k - f + 1) _ _ false rfl (by omega) R2.out (by omega) (by omega) St5.out.2.1 St5.out.2.2).mono ?_
    rintro e w8 ⟨rfl, rfl⟩
    go_wp2_with fail
    go_ret
    exact ⟨ret_bool (by simp), St5.out.1⟩

theorem mfirst_any (n f : Nat) (on : Bool) (l : List Int) (A : Option Addr) (cap : Nat) (w : World) (hn : n ≤ 65535) (hf : f ≤ 65535) (hT : TabZ w) (hA : SlR w A (i64s l)) :
    Calls Tryd.prog 4 #[.int .u16 (n : Int), .slice A l.length cap, .bool on, .int .u16 (f : Int)] w fun e w' => e = .returned (.bool true) ∧ Below w.heap.size w w' := by
  by_cases hl : (300 : Int) < (l.length : Int)
  · exact mfirst_long n f on l l.length A cap w hT hl
  · exact mfirst_short n f on l l.length rfl A cap w hn hf hT hA (by omega)
end Go.Proofs.YtjlgkefklklphaaDoor
