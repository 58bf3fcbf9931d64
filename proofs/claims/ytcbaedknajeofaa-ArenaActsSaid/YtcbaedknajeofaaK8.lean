/- The contract of Same. Condition: the bytes are read. -/
import Derived.Test.YtcbaedknajeofaaProg
import Derived.Test.YtcbaedknajeofaaK7
import Derived.WalkKit
import Derived.WalkLawsBesides
import Derived.WalkSpells
import Derived.Deep.QuietTactic
import Derived.BigQuiet
import Derived.Deep.RegionHeld3
import Derived.Deep.RegionLaw
import Derived.Outline
namespace Go.Proofs.Ytcbaedknajeofaa
open Go.RowKit



theorem below_drewN {B : Nat} {a w : World} (h : Below B a w) (n : Nat) : Below B a (w.drewN n) := ⟨h.os, h.tape, h.output, h.size, h.block⟩

def eqL (l m : List Nat) : Bool := decide (l = m)

set_option maxHeartbeats 800000 in
theorem same_any (l m : List Nat) (A B : Option Addr) (cl cm : Nat) (w : World) (hA : SlR w A (u8s l)) (hB : SlR w B (u8s m)) (hl : l.length ≤ 9223372036854775807) (hm : m.length ≤ 9223372036854775807) :
    Calls Try.prog 22 #[.slice A l.length cl, .slice B m.length cm] w fun e w' => e = .returned (.bool (eqL l m)) ∧ Below w.heap.size w w' := by
  by_cases hlm : l.length = m.length
  · have hb0 : ((l.length : Int) != (m.length : Int)) = false := by rw [hlm]; simp
    have HA := Lib.hid hA
    have HB := Lib.hid hB
    have HL := Lib.hid hlm
    clear hA hB hlm
    go_enter Try.func22, Try.ntmps22
    go_wp2_with fail
    go_loopw [5] (fun i wr => ∃ k : Nat, k ≤ l.length ∧ i = .int .i64 k ∧ l.take k = m.take k ∧ Below w.heap.size w wr) (fun i _ => l.length - (intOf i).toNat)
    case atStart => exact ⟨0, Nat.zero_le _, rfl, rfl, Below.refl _ _⟩
    case round =>
      obtain ⟨k, hk, rfl, heq, hwr⟩ := hrel
      have Heq := Lib.hid heq
      have Hwr := Lib.hid hwr
      clear heq hwr
      by_cases hlt : k < l.length
      · have hlt2 : k < m.length := by rw [← HL.out]; exact hlt
        obtain ⟨b, off, rfl, hbb, hc⟩ := (HA.out.below Hwr.out).byte hlt
        obtain ⟨b2, off2, rfl, hbb2, hc2⟩ := (HB.out.below Hwr.out).byte hlt2
        have q1 := hc k hlt
        have q2 := hc2 k hlt2
        clear hc hc2
        have i1 : (0 : Int) ≤ (k : Int) := Int.natCast_nonneg _
        have i2 : (k : Int) < (l.length : Int) := by omega
        have i3 : (k : Int) < (m.length : Int) := by omega
        by_cases he : l[k] = m[k]
        · have t1 : ((l[k] : Int) != (m[k] : Int)) = false := by simp [he]
          have He := Lib.hid he
          clear he
          go_wp2_with fail
          go_quiet (fail)
          go_wp2
          go_roundw
          case rel =>
            refine ⟨k + 1, by omega, by go_num, ?_, below_drewN Hwr.out nq⟩
            rw [List.take_succ_eq_append_getElem hlt, List.take_succ_eq_append_getElem hlt2, Heq.out, He.out]
          case measure => simp [intOf]; omega
        · have t1 : ((l[k] : Int) != (m[k] : Int)) = true := by simp; omega
          have He := Lib.hid he
          clear he
          go_wp2_with fail
          go_quiet (fail)
          go_wp2
          go_ret
          refine ⟨ret_bool ?_, below_drewN Hwr.out nq⟩
          refine (decide_eq_false ?_).symm
          intro e
          apply He.out
          simp only [e]
      · have Hlt := Lib.hid hlt
        go_wp2
        go_ret
        refine ⟨ret_bool ?_, Hwr.out⟩
        refine (decide_eq_true ?_).symm
        have h := Heq.out
        rw [List.take_of_length_le (by omega), List.take_of_length_le (by have := HL.out; omega)] at h
        exact h
  · have hb0 : ((l.length : Int) != (m.length : Int)) = true := by simp; omega
    have HL := Lib.hid hlm
    clear hlm
    go_enter Try.func22, Try.ntmps22
    go_wp2
    go_ret
    refine ⟨ret_bool ?_, Below.refl _ _⟩
    refine (decide_eq_false ?_).symm
    rintro rfl
    exact HL.out rfl

end Go.Proofs.Ytcbaedknajeofaa
