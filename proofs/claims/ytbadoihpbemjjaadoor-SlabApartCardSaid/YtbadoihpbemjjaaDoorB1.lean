/- The contracts of Greatest, Order, Take, Give. Condition: the allocator's state is held. -/
import Derived.Test.YtbadoihpbemjjaaDoorB0
import Derived.Deep.Cut
import Derived.Deep.DeepCutAuto
import Derived.WalkKit
import Derived.WalkLawsBesides
import Derived.WalkSpells
import Derived.Deep.QuietTactic
import Derived.Deep.RegionLaw
import Derived.Outline
import Derived.Lib.Hide
namespace Go.Proofs.YtbadoihpbemjjaaDoor
open Go.RowKit Go.Maps
variable {V W w : World} {S : List (Option Addr × List Value)} {b top : Nat} {gm gw : Nat → Nat} {mu n : Nat} {F : Nat → Nat → Bool} {U : Int → Option Nat}
theorem zeroI (w : World) : (zeroValue 3).run Tryd.prog w = .ok (.int .i64 0) w := by kernel_rfl

theorem run_shl (x : Nat) (o : Nat) (X O Z : Int) (hX : X = (x : Int)) (hO : O = (o : Int)) (hZ : Z = ((x * 2 ^ o : Nat) : Int)) (hb : x * 2 ^ o < 4611686018427387904) (ho : o < 64) (w : World) : (Op.shift .shl .i64 X .i64 O).run Tryd.prog w = .ok (.int .i64 Z) w := by
  subst hX hO hZ
  have e : min ((o : Int).toNat) (IntKind.i64.bits) = o := by
    show min ((o : Int).toNat) 64 = o
    omega
  have e2 : IntKind.i64.wrap ((x : Int) * 2 ^ o) = ((x * 2 ^ o : Nat) : Int) := by
    rw [IntKind.wrap_i64]
    have : ((x : Int) * 2 ^ o) = ((x * 2 ^ o : Nat) : Int) := by push_cast; rfl
    rw [this]
    omega
  unfold Op.shift
  rw [if_neg (by omega)]
  simp only [e, e2]
  rfl
def topF (F : Nat → Nat → Bool) (top : Nat) (r : Int) : Prop := (r = -1 ∧ ∀ j i, j ≤ top → i < 2 ^ (top - j) → F j i = false) ∨ ∃ k : Nat, r = (k : Int) ∧ k ≤ top ∧ (∃ i, i < 2 ^ (top - k) ∧ F k i = true) ∧ ∀ j i, k < j → j ≤ top → i < 2 ^ (top - j) → F j i = false
set_option maxRecDepth 100000 in
theorem count_nil (w : World) : Calls Tryd.prog 40 #[.pointer none] w fun e w' => e = .returned (.int .i64 0) ∧ w' = w := by
  go_enter Tryd.func40, Tryd.ntmps40
  go_wp2
  refine wp_loop_rounds 1 ?_
  rw [rounds_succ]
  go_wp2
  go_ret
  exact ⟨rfl, rfl⟩
set_option maxRecDepth 100000 in
theorem order_b (h : BSt V W S w b top gm gw mu n F U) (x : Int) (hx : (Lit.int .i64 x).wf = true) : Calls Tryd.prog 29 #[.pointer (some ⟨b, 0, none⟩), .int .i64 x] w fun e w' => e = .returned (.int .i64 (match U x with | some k => (k : Int) | none => -1)) ∧ w' = w := by
  obtain ⟨D, ho, hh, ha⟩ := h.used
  have c := h.c22
  have h1 := hh x hx
  have Ha := Lib.hid ha
  have HO := Lib.hid ho
  have HX := Lib.hid hx
  clear h hh ha ho hx
  cases hu : U x with
  | none =>
    rw [hu] at h1
    have h2 : Maps.has D (.int .i64 x) = false := h1
    clear h1 hu
    go_enter Tryd.func29, Tryd.ntmps29
    go_wp2_with (first | (at_lookup; refine wpList_lookup_own_ok_int _ rfl _ _ 62 rfl 3 3 .i64 keyed_int Tryd.underlying62 Tryd.underlying3 (zeroI _) mu n D rfl HO.out _ _ rfl (keyOf_int_mk Tryd.underlying3 HX.out) ?_; intro c hat hwc; clear hat hwc; rw [h2]) | fail)
    go_ret
    exact ⟨rfl, rfl⟩
  | some k =>
    rw [hu] at h1
    have h2 : Maps.has D (.int .i64 x) = true := h1
    have h3 : ∀ c : Int, D.atKey (.int .i64 x) (.lit (.int .i64 0)) = .lit (.int .i64 c) → c = (k : Int) := fun c hc => by
      have := Ha.out x k HX.out hu (.lit (.int .i64 0))
      rw [this] at hc
      injection hc with hc
      injection hc with _ hc
      exact hc.symm
    have H3 := Lib.hid h3
    clear h1 hu h3
    go_enter Tryd.func29, Tryd.ntmps29
    go_wp2_with (first | (at_lookup; refine wpList_lookup_own_ok_int _ rfl _ _ 62 rfl 3 3 .i64 keyed_int Tryd.underlying62 Tryd.underlying3 (zeroI _) mu n D rfl HO.out _ _ rfl (keyOf_int_mk Tryd.underlying3 HX.out) ?_; intro c hat hwc; rw [h2, H3.out c hat]; clear hat hwc) | fail)
    go_ret
    exact ⟨rfl, rfl⟩
end Go.Proofs.YtbadoihpbemjjaaDoor
