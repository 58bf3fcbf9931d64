/- The contracts of aligned, Code and Item. No condition. -/
import Derived.Test.YtgacfgofpanchaaProg
import Derived.Test.YtgacfgofpanchaaK8
import Derived.WalkKit
import Derived.WalkLawsBesides
import Derived.WalkSpells
import Derived.Deep.QuietTactic
import Derived.BigQuiet
import Derived.Deep.RegionHeld3
import Derived.Deep.RegionLaw
import Derived.Outline
import Derived.Lib.LazyBuf
import Derived.Deep.WholeRow
namespace Go.Proofs.Ytgacfgofpanchaa
open Go.RowKit

theorem aligned_any (base order : Int) (w : World) :
    Calls Try.prog 33 #[.int .i64 base, .int .i64 order] w fun e w' => e = .returned (.bool (alignedB base order)) ∧ w = w' := by
  go_enter Try.func33, Try.ntmps33
  go_wp2
  all_goals go_ret
  all_goals refine ⟨ret_bool ?_, rfl⟩
  all_goals unfold alignedB
  · refine (mask_test base order (by assumption) (by assumption) (by assumption) (by assumption)).trans ?_
    rw [Bool.eq_iff_iff]; simp only [decide_eq_true_eq]
    exact ⟨fun h => ⟨by assumption, by assumption, by assumption, by assumption, h⟩, fun h => h.2.2.2.2⟩
  all_goals (refine Eq.symm (decide_eq_false ?_); omega)
/-- a whole struct stored into the block that was made last -/
theorem wpList_store_new {P : Program} {ops : Array Oper} {rest : List Oper} {op : Oper} {a : Act} {w : World} {Q : Exit → Act → World → Prop} (ty : TypeId) (hgd : op.guard = none) (x y : Operand) (ho : op.op = .store ty x y)
    (c c' : Array Value) (hx : a.eval x = .pointer (some ⟨w.heap.size, 0, none⟩)) (hy : a.eval y = .agg c') (hi : (P.info? ty).map (·.size) = some c'.size) (hs : c.size = c'.size) (h1 : c'.all (·.oneCell') = true)
    (h : wpList P ops Q rest (a.put op.dst undef) (w.alloc (.cells c' ty))) : wpList P ops Q (op :: rest) a (w.alloc (.cells c ty)) :=
  wpList_plain hgd fun K hK => by
    unfold Oper.wp execOp
    simp only [ho, hx, hy, Sem.run_bind, run_storeAt_new w ty c c' hi hs h1, Sem.run_pure, Result.andThen_ok]
    exact hK _ _ h
theorem code_yes (i : Itm) (w : World) (h : mayI i = true) :
    Calls Try.prog 11 #[.agg #[.int .i64 i.base, .int .i64 i.order, .int .i64 i.rights, .int .i64 i.off, .bool i.grant]] w fun e w' => e = .returned (.tuple #[.int .u64 ((codeI i : Nat) : Int), .bool true]) ∧ Below w.heap.size w w' := by
  have hp := (mayI_iff i).1 h
  obtain ⟨⟨q1, q2, q3, q4, q0⟩, q5, q6, q7, q8⟩ := hp
  have ha : alignedB i.base i.order = true := by simp only [alignedB, decide_eq_true_eq]; exact ⟨q1, q2, q3, q4, q0⟩
  have hw : ∀ g, i.grant = g → IntKind.u64.wrap ((codeI ⟨i.base, i.order, i.rights, i.off, g⟩ : Nat) : Int) = ((codeI i : Nat) : Int) := by
    rintro g rfl
    have := codeI_lt i h
    rw [IntKind.wrap_u64]
    show ((codeI i : Nat) : Int) % _ = _
    omega
  have Hw := Lib.hid hw
  have H1 := Lib.hid (code_word i h)
  have H2 := Lib.hid (code_grant i h)
  clear h q0 hw
  go_enter Try.func11, Try.ntmps11
  go_wp2_with (go_at_call 33; refine (aligned_any _ _ _).mono ?_; rintro e w1 ⟨rfl, rfl⟩)
  all_goals go_ret2
  all_goals refine ⟨?_, (Below.refl _ _).alloc (Nat.le_refl _) _⟩
  · have hg : i.grant = true := by assumption
    have e : ∀ x y : Int, x = y → Ending.returned (.tuple #[.int .u64 x, .bool true]) = .returned (.tuple #[.int .u64 y, .bool true]) := by rintro x y rfl; rfl
    refine e _ _ ?_
    rw [H1.out, H2.out]
    exact Hw.out true hg
  · have hg : i.grant = false := by assumption
    have e : ∀ x y : Int, x = y → Ending.returned (.tuple #[.int .u64 x, .bool true]) = .returned (.tuple #[.int .u64 y, .bool true]) := by rintro x y rfl; rfl
    refine e _ _ ?_
    rw [H1.out]
    exact Hw.out false hg
theorem code_no (i : Itm) (w : World) (h : mayI i = false) :
    Calls Try.prog 11 #[.agg #[.int .i64 i.base, .int .i64 i.order, .int .i64 i.rights, .int .i64 i.off, .bool i.grant]] w fun e w' => e = .returned (.tuple #[.int .u64 0, .bool false]) ∧ Below w.heap.size w w' := by
  have Hn := Lib.hid h
  clear h
  by_cases ha : alignedB i.base i.order = true
  · go_enter Try.func11, Try.ntmps11
    go_wp2_with (go_at_call 33; refine (aligned_any _ _ _).mono ?_; rintro e w1 ⟨rfl, rfl⟩)
    all_goals first
      | (exfalso; exact not_mayI Hn.out ha (by omega) (by omega) (by omega) (by omega))
      | (go_ret2; exact ⟨rfl, (Below.refl _ _).alloc (Nat.le_refl _) _⟩)
  · have ha : alignedB i.base i.order = false := by simpa using ha
    go_enter Try.func11, Try.ntmps11
    go_wp2_with (go_at_call 33; refine (aligned_any _ _ _).mono ?_; rintro e w1 ⟨rfl, rfl⟩)
    all_goals go_ret2
    all_goals exact ⟨rfl, (Below.refl _ _).alloc (Nat.le_refl _) _⟩
set_option maxHeartbeats 800000 in
theorem item_yes (x : Nat) (w : World) (hx : x < 18446744073709551616) (h : itemOk x = true) :
    Calls Try.prog 13 #[.int .u64 (x : Int)] w fun e w' => e = .returned (.tuple #[.agg #[.int .i64 (itemOf x).base, .int .i64 (itemOf x).order, .int .i64 (itemOf x).rights, .int .i64 (itemOf x).off, .bool (itemOf x).grant], .bool true]) ∧ Below w.heap.size w w' := by
  have f0 := item_f0 x hx
  have f1 := item_f1 x hx
  have f2 := item_f2 x hx
  have f3 := item_f3 x hx
  have f4 := item_f4 x hx
  obtain ⟨hm, hc⟩ := (itemOk_iff x).1 h
  have Hm := Lib.hid hm
  have ec : ((codeI (itemOf x) : Nat) : Int) = (x : Int) := by rw [hc]
  clear hx h hm hc
  go_enter Try.func13, Try.ntmps13
  go_wp2_with (go_at_call 11; refine (code_yes (itemOf x) _ Hm.out).mono ?_; rintro e w1 ⟨rfl, hb⟩; obtain ⟨hc, hf⟩ := bcell hb; have hz : w.heap.size + 1 < w1.heap.size := by have := hb.size; simp at this; omega)
  have q0 : w1.cell? ⟨w.heap.size, 0, none⟩ = some (.int .i64 0) := (hc _ _ (by simp; omega)).trans (by simp)
  have q1 : w1.cell? ⟨w.heap.size, 1, none⟩ = some (.int .i64 0) := (hc _ _ (by simp; omega)).trans (by simp)
  have q2 : w1.cell? ⟨w.heap.size, 2, none⟩ = some (.int .i64 0) := (hc _ _ (by simp; omega)).trans (by simp)
  have q3 : w1.cell? ⟨w.heap.size, 3, none⟩ = some (.int .i64 0) := (hc _ _ (by simp; omega)).trans (by simp)
  have q4 : w1.cell? ⟨w.heap.size, 4, none⟩ = some (.bool false) := (hc _ _ (by simp; omega)).trans (by simp)
  refine bodyPost_ret (v := .tuple #[.agg #[.int .i64 (itemOf x).base, .int .i64 (itemOf x).order, .int .i64 (itemOf x).rights, .int .i64 (itemOf x).off, .bool (itemOf x).grant], .bool true]) (by simp [results, Try.results13, go_sem, q0, q1, q2, q3, q4]) rfl ⟨rfl, ?_⟩
  have hb0 : Below w.heap.size w w1 := (((Below.refl _ _).alloc (Nat.le_refl _) _).alloc (by simp) _).trans (hb.mono (by simp; omega))
  repeat (first | (with_reducible exact hb0) | (with_reducible refine Below.setCell ?_ (by simp) _))
set_option maxHeartbeats 800000 in
theorem item_no (x : Nat) (w : World) (hx : x < 18446744073709551616) (h : itemOk x = false) :
    Calls Try.prog 13 #[.int .u64 (x : Int)] w fun e w' => e = .returned (.tuple #[.agg #[.int .i64 0, .int .i64 0, .int .i64 0, .int .i64 0, .bool false], .bool false]) ∧ Below w.heap.size w w' := by
  have f0 := item_f0 x hx
  have f1 := item_f1 x hx
  have f2 := item_f2 x hx
  have f3 := item_f3 x hx
  have f4 := item_f4 x hx
  by_cases hm : mayI (itemOf x) = true
  · have ec : ((codeI (itemOf x) : Nat) : Int) ≠ (x : Int) := by
      intro e
      have : codeI (itemOf x) = x := by omega
      rw [(itemOk_iff x).2 ⟨hm, this⟩] at h
      cases h
    have ec1 : (((codeI (itemOf x) : Nat) : Int) != (x : Int)) = true := by simpa using ec
    have ec2 : (((codeI (itemOf x) : Nat) : Int) == (x : Int)) = false := by simpa using ec
    have Hm := Lib.hid hm
    clear hx h hm ec
    go_enter Try.func13, Try.ntmps13
    go_wp2_with (go_at_call 11; refine (code_yes (itemOf x) _ Hm.out).mono ?_; rintro e w1 ⟨rfl, hb⟩; obtain ⟨hc, hf⟩ := bcell hb; have hz : w.heap.size + 1 < w1.heap.size := by have := hb.size; simp at this; omega)
    have q0 : w1.cell? ⟨w.heap.size, 0, none⟩ = some (.int .i64 0) := (hc _ _ (by simp; omega)).trans (by simp)
    have q1 : w1.cell? ⟨w.heap.size, 1, none⟩ = some (.int .i64 0) := (hc _ _ (by simp; omega)).trans (by simp)
    have q2 : w1.cell? ⟨w.heap.size, 2, none⟩ = some (.int .i64 0) := (hc _ _ (by simp; omega)).trans (by simp)
    have q3 : w1.cell? ⟨w.heap.size, 3, none⟩ = some (.int .i64 0) := (hc _ _ (by simp; omega)).trans (by simp)
    have q4 : w1.cell? ⟨w.heap.size, 4, none⟩ = some (.bool false) := (hc _ _ (by simp; omega)).trans (by simp)
    refine bodyPost_ret (v := .tuple #[.agg #[.int .i64 0, .int .i64 0, .int .i64 0, .int .i64 0, .bool false], .bool false]) (by simp [results, Try.results13, go_sem, q0, q1, q2, q3, q4]) rfl ⟨rfl, ?_⟩
    have hb0 : Below w.heap.size w w1 := (((Below.refl _ _).alloc (Nat.le_refl _) _).alloc (by simp) _).trans (hb.mono (by simp; omega))
    repeat (first | (with_reducible exact hb0) | (with_reducible refine Below.setCell ?_ (by simp) _))
  · have Hm := Lib.hid (show mayI (itemOf x) = false by simpa using hm)
    clear hx h hm
    go_enter Try.func13, Try.ntmps13
    go_wp2_with (go_at_call 11; refine (code_no (itemOf x) _ Hm.out).mono ?_; rintro e w1 ⟨rfl, hb⟩; obtain ⟨hc, hf⟩ := bcell hb; have hz : w.heap.size + 1 < w1.heap.size := by have := hb.size; simp at this; omega)
    have q0 : w1.cell? ⟨w.heap.size, 0, none⟩ = some (.int .i64 0) := (hc _ _ (by simp; omega)).trans (by simp)
    have q1 : w1.cell? ⟨w.heap.size, 1, none⟩ = some (.int .i64 0) := (hc _ _ (by simp; omega)).trans (by simp)
    have q2 : w1.cell? ⟨w.heap.size, 2, none⟩ = some (.int .i64 0) := (hc _ _ (by simp; omega)).trans (by simp)
    have q3 : w1.cell? ⟨w.heap.size, 3, none⟩ = some (.int .i64 0) := (hc _ _ (by simp; omega)).trans (by simp)
    have q4 : w1.cell? ⟨w.heap.size, 4, none⟩ = some (.bool false) := (hc _ _ (by simp; omega)).trans (by simp)
    refine bodyPost_ret (v := .tuple #[.agg #[.int .i64 0, .int .i64 0, .int .i64 0, .int .i64 0, .bool false], .bool false]) (by simp [results, Try.results13, go_sem, q0, q1, q2, q3, q4]) rfl ⟨rfl, ?_⟩
    have hb0 : Below w.heap.size w w1 := (((Below.refl _ _).alloc (Nat.le_refl _) _).alloc (by simp) _).trans (hb.mono (by simp; omega))
    repeat (first | (with_reducible exact hb0) | (with_reducible refine Below.setCell ?_ (by simp) _))
end Go.Proofs.Ytgacfgofpanchaa
