/- The contracts of the reference's Code and May of calls. No condition. -/
import Derived.Test.YtgacfgofpanchaaProg
import Derived.Test.YtgacfgofpanchaaG1
import Derived.WalkKit
import Derived.WalkLawsBesides
import Derived.WalkSpells
import Derived.Deep.QuietTactic
import Derived.BigQuiet
import Derived.Deep.RegionHeld3
import Derived.Deep.RegionLaw
import Derived.Outline
import Derived.Lib.LazyBuf
import Derived.Deep.WholeRow
namespace Go.Proofs.Ytgacfgofpanchaa
open Go.RowKit

theorem ret_two {n m : Int} {b : Bool} (h : n = m) : Ending.returned (.tuple #[.int .u64 n, .bool b]) = Ending.returned (.tuple #[.int .u64 m, .bool b]) := by rw [h]
theorem Code14_yes (i : Itm) (h : mayI i = true) (w : World) : Calls Try.prog 12 #[.agg #[.int .i64 i.base, .int .i64 i.order, .int .i64 i.rights, .int .i64 i.off, .bool i.grant]] w fun e w' => e = .returned (.tuple #[.int .u64 ((codeI i : Nat) : Int), .bool true]) ∧ Below w.heap.size w w' := by
  have hi := (mayI_iff i).1 h
  obtain ⟨base, order, rights, off, grant⟩ := i
  obtain ⟨⟨h1, h2, h3, h4, h5⟩, h6, h7, h8, h9⟩ := hi
  simp only at h1 h2 h3 h4 h5 h6 h7 h8 h9
  clear h5
  have H := Lib.hid h
  clear h
  obtain ⟨b, rfl⟩ := Int.eq_ofNat_of_zero_le h1
  obtain ⟨o, rfl⟩ := Int.eq_ofNat_of_zero_le h3
  obtain ⟨r, rfl⟩ := Int.eq_ofNat_of_zero_le (show 0 ≤ rights by omega)
  obtain ⟨f, rfl⟩ := Int.eq_ofNat_of_zero_le h8
  cases grant
  · go_enter Try.func12, Try.ntmps12
    go_wp2_with fail
    refine (Fits14_any ⟨(b : Int), (o : Int), (r : Int), (f : Int), false⟩ _).mono ?_
    rintro e w1 ⟨rfl, hb⟩
    rw [H.out]
    obtain ⟨hbw, hcb, hz⟩ := box_after hb
    have x0 : w1.cell? ⟨w.heap.size, 0, none⟩ = some (.int .i64 (b : Int)) := (hcb 0).trans rfl
    have x1 : w1.cell? ⟨w.heap.size, 1, none⟩ = some (.int .i64 (o : Int)) := (hcb 1).trans rfl
    have x2 : w1.cell? ⟨w.heap.size, 2, none⟩ = some (.int .i64 (r : Int)) := (hcb 2).trans rfl
    have x3 : w1.cell? ⟨w.heap.size, 3, none⟩ = some (.int .i64 (f : Int)) := (hcb 3).trans rfl
    have x4 : w1.cell? ⟨w.heap.size, 4, none⟩ = some (.bool false) := (hcb 4).trans rfl
    clear hb hcb
    go_wp2_with fail
    go_ret2
    refine ⟨ret_two ?_, hbw⟩
    simp [codeI]; try omega
  · go_enter Try.func12, Try.ntmps12
    go_wp2_with fail
    refine (Fits14_any ⟨(b : Int), (o : Int), (r : Int), (f : Int), true⟩ _).mono ?_
    rintro e w1 ⟨rfl, hb⟩
    rw [H.out]
    obtain ⟨hbw, hcb, hz⟩ := box_after hb
    have x0 : w1.cell? ⟨w.heap.size, 0, none⟩ = some (.int .i64 (b : Int)) := (hcb 0).trans rfl
    have x1 : w1.cell? ⟨w.heap.size, 1, none⟩ = some (.int .i64 (o : Int)) := (hcb 1).trans rfl
    have x2 : w1.cell? ⟨w.heap.size, 2, none⟩ = some (.int .i64 (r : Int)) := (hcb 2).trans rfl
    have x3 : w1.cell? ⟨w.heap.size, 3, none⟩ = some (.int .i64 (f : Int)) := (hcb 3).trans rfl
    have x4 : w1.cell? ⟨w.heap.size, 4, none⟩ = some (.bool true) := (hcb 4).trans rfl
    clear hb hcb
    go_wp2_with fail
    go_ret2
    refine ⟨ret_two ?_, hbw⟩
    simp [codeI]; try omega
theorem Code14_no (i : Itm) (h : mayI i = false) (w : World) : Calls Try.prog 12 #[.agg #[.int .i64 i.base, .int .i64 i.order, .int .i64 i.rights, .int .i64 i.off, .bool i.grant]] w fun e w' => e = .returned (.tuple #[.int .u64 0, .bool false]) ∧ Below w.heap.size w w' := by
  have H := Lib.hid h
  clear h
  go_enter Try.func12, Try.ntmps12
  go_wp2_with fail
  refine (Fits14_any i _).mono ?_
  rintro e w1 ⟨rfl, hb⟩
  rw [H.out]
  obtain ⟨hbw, hcb, hz⟩ := box_after hb
  have x0 : w1.cell? ⟨w.heap.size, 0, none⟩ = some (.int .i64 i.base) := (hcb 0).trans rfl
  clear hb hcb
  go_wp2_with fail
  go_ret2
  exact ⟨rfl, hbw⟩
end Go.Proofs.Ytgacfgofpanchaa
