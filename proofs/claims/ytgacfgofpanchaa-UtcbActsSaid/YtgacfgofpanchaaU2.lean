/- Contracts of Code, Item and May, the program's and the reference's, for whatever arguments. No condition. -/
import Derived.Test.YtgacfgofpanchaaProg
import Derived.Test.YtgacfgofpanchaaK18
import Derived.WalkKit
import Derived.WalkLawsBesides
import Derived.WalkSpells
import Derived.Deep.QuietTactic
import Derived.BigQuiet
import Derived.Deep.RegionHeld3
import Derived.Deep.RegionLaw
import Derived.Outline
import Derived.Lib.LazyBuf
import Derived.Deep.WholeRow
namespace Go.Proofs.Ytgacfgofpanchaa
open Go.RowKit

def codeX (i : Itm) : Nat := if mayI i = true then codeI i else 0
def itemX (x : Nat) : Itm := if itemOk x = true then itemOf x else ⟨0, 0, 0, 0, false⟩
def itemVal (i : Itm) : Value := .agg #[.int .i64 i.base, .int .i64 i.order, .int .i64 i.rights, .int .i64 i.off, .bool i.grant]
theorem code_u (i : Itm) (x : Nat) (r : Bool) (hx : codeX i = x) (hr : mayI i = r) (w : World) : Calls Try.prog 11 #[.agg #[.int .i64 i.base, .int .i64 i.order, .int .i64 i.rights, .int .i64 i.off, .bool i.grant]] w fun e w' => e = .returned (.tuple #[.int .u64 (x : Int), .bool r]) ∧ Below w.heap.size w w' := by
  subst hx hr
  unfold codeX
  exact code_any i w
theorem code14_u (i : Itm) (x : Nat) (r : Bool) (hx : codeX i = x) (hr : mayI i = r) (w : World) : Calls Try.prog 12 #[.agg #[.int .i64 i.base, .int .i64 i.order, .int .i64 i.rights, .int .i64 i.off, .bool i.grant]] w fun e w' => e = .returned (.tuple #[.int .u64 (x : Int), .bool r]) ∧ Below w.heap.size w w' := by
  subst hx hr
  unfold codeX
  cases h : mayI i
  · exact (Code14_no i h w).mono fun e w' q => ⟨by rw [q.1, if_neg (by decide)]; rfl, q.2⟩
  · exact (Code14_yes i h w).mono fun e w' q => ⟨by rw [q.1, if_pos rfl], q.2⟩
theorem item_u (x : Nat) (hx : x < 18446744073709551616) (i : Itm) (r : Bool) (hi : itemX x = i) (hr : itemOk x = r) (w : World) : Calls Try.prog 13 #[.int .u64 (x : Int)] w fun e w' => e = .returned (.tuple #[.agg #[.int .i64 i.base, .int .i64 i.order, .int .i64 i.rights, .int .i64 i.off, .bool i.grant], .bool r]) ∧ Below w.heap.size w w' := by
  subst hi hr
  unfold itemX
  cases h : itemOk x
  · exact (item_no x w hx h).mono fun e w' q => ⟨by rw [q.1, if_neg (by decide)], q.2⟩
  · exact (item_yes x w hx h).mono fun e w' q => ⟨by rw [q.1, if_pos rfl], q.2⟩
theorem item14_u (x : Nat) (hx : x < 18446744073709551616) (i : Itm) (r : Bool) (hi : itemX x = i) (hr : itemOk x = r) (w : World) : Calls Try.prog 14 #[.int .u64 (x : Int)] w fun e w' => e = .returned (.tuple #[.agg #[.int .i64 i.base, .int .i64 i.order, .int .i64 i.rights, .int .i64 i.off, .bool i.grant], .bool r]) ∧ Below w.heap.size w w' := by
  subst hi hr
  unfold itemX
  cases h : itemOk x
  · exact (Item14_no x w hx h).mono fun e w' q => ⟨by rw [q.1, if_neg (by decide)]; first | rfl | skip, q.2⟩
  · exact (Item14_yes x w hx h).mono fun e w' q => ⟨by rw [q.1, if_pos rfl]; first | rfl | skip, q.2⟩
theorem may14_u (b o : Int) (r : Bool) (hr : alignedB b o = r) (w : World) : Calls Try.prog 16 #[.agg #[.int .i64 b, .int .i64 o]] w fun e w' => e = .returned (.bool r) ∧ Below w.heap.size w w' := by
  subst hr
  go_enter Try.func16, Try.ntmps16
  go_wp2_with fail
  refine (fits14_any _ _ _).mono ?_
  rintro e w2 ⟨rfl, hb⟩
  have Hb : Hid (Below w.heap.size w w2) := Lib.hid (((Below.refl _ _).alloc (Nat.le_refl _) _).trans (hb.mono (by simp)))
  clear hb
  go_wp2
  go_ret
  exact ⟨rfl, Hb.out⟩
theorem run_eq_item (i j : Itm) (w : World) : (binOp .eql 24 (.agg #[.int .i64 i.base, .int .i64 i.order, .int .i64 i.rights, .int .i64 i.off, .bool i.grant]) (.agg #[.int .i64 j.base, .int .i64 j.order, .int .i64 j.rights, .int .i64 j.off, .bool j.grant])).run Try.prog w = .ok (.bool (eqI i j)) w := by
  obtain ⟨a, b, c, d, e⟩ := i
  obtain ⟨a', b', c', d', e'⟩ := j
  by_cases h1 : a = a'
  · by_cases h2 : b = b'
    · by_cases h3 : c = c'
      · by_cases h4 : d = d'
        · cases e <;> cases e' <;> simp [eqI, go_sem, h1, h2, h3, h4]
        · simp [eqI, go_sem, h1, h2, h3, h4]
      · simp [eqI, go_sem, h1, h2, h3]
    · simp [eqI, go_sem, h1, h2]
  · simp [eqI, go_sem, h1]
theorem eqI_self (i : Itm) : eqI i i = true := (eqI_iff i i).2 rfl
end Go.Proofs.Ytgacfgofpanchaa
