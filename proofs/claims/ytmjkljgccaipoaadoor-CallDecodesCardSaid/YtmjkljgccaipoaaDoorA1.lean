/- Contracts of layer 21's small functions: places of bits in a word; items. Conditions: bounds on the place. -/
import Derived.Test.YtmjkljgccaipoaaDoorProg
import Derived.Test.YtmjkljgccaipoaaDoorA0
import Derived.WalkKit
import Derived.WalkLawsBesides
import Derived.WalkSpells
import Derived.Deep.QuietTactic
import Derived.BigQuiet
import Derived.Deep.RegionHeld3
import Derived.Lib.Hide
import Derived.Deep.WholeRow
namespace Go.Proofs.YtmjkljgccaipoaaDoor
open Go.RowKit

theorem greatest_any (at_ : Int) (many : Nat) (w : World) (h1 : many ≤ 62) :
    Calls Tryd.prog 37 #[.agg #[.int .u64 at_, .int .u64 (many : Int)]] w fun e w' => e = .returned (.int .u64 (2 ^ many - 1)) ∧ Below w.heap.size w w' := by
  go_enter Tryd.func37, Tryd.ntmps37
  go_wp2
  go_ret
  refine ⟨?_, (Below.refl _ _).alloc (Nat.le_refl _) _⟩
  simp [mask_wrap many h1]

theorem get_any (at_ many x : Nat) (w : World) (h1 : many ≤ 62) (hx : x < 18446744073709551616) :
    Calls Tryd.prog 30 #[.agg #[.int .u64 (at_ : Int), .int .u64 (many : Int)], .int .u64 (x : Int)] w fun e w' => e = .returned (.int .i64 ((x / 2 ^ min at_ 64 % 2 ^ many : Nat) : Int)) ∧ Below w.heap.size w w' := by
  have Hf := Lib.hid (field_get x (min at_ 64) many h1 hx)
  clear hx
  go_enter Tryd.func30, Tryd.ntmps30
  go_wp2
  go_region_held3 (fun w' => w'.cell? ⟨w.heap.size, 0, none⟩ = some (.int .u64 (at_ : Int)) ∧ w'.cell? ⟨w.heap.size, 1, none⟩ = some (.int .u64 (many : Int))) (go_keep)
    (first | (go_at_call 37; refine (greatest_any _ _ _ h1).mono ?_; rintro e w1 ⟨rfl, hb⟩; obtain ⟨hc, hf⟩ := bcell hb))
  go_wp2
  go_ret
  exact ⟨ret_int Hf.out, ((Below.refl _ _).alloc (Nat.le_refl _) _).drew.trans (hb.mono (by simp))⟩

theorem put_any (at_ : Nat) (many n : Int) (w : World) (h0 : 0 ≤ n) (hn : n < 18446744073709551616) (h1 : n * 2 ^ min at_ 64 < 18446744073709551616) :
    Calls Tryd.prog 36 #[.agg #[.int .u64 (at_ : Int), .int .u64 many], .int .i64 n] w fun e w' => e = .returned (.int .u64 (n * 2 ^ min at_ 64)) ∧ Below w.heap.size w w' := by
  have e : IntKind.u64.wrap (IntKind.u64.wrap n * 2 ^ min at_ 64) = n * 2 ^ min at_ 64 := by
    have h2 : 0 ≤ n * 2 ^ min at_ 64 := Int.mul_nonneg h0 (Int.le_of_lt (two_pow_pos _))
    simp only [IntKind.wrap_u64]
    rw [Int.emod_eq_of_lt h0 hn]
    omega
  have Hf := Lib.hid e
  clear e h1 h0 hn
  go_enter Tryd.func36, Tryd.ntmps36
  go_wp2
  go_ret
  exact ⟨ret_int Hf.out, (Below.refl _ _).alloc (Nat.le_refl _) _⟩

theorem fits_any (p q most n : Int) (w : World) :
    Calls Tryd.prog 25 #[.agg #[.int .u64 p, .int .u64 q, .int .i64 most], .int .i64 n] w fun e w' => e = .returned (.bool (decide (0 ≤ n ∧ n ≤ most))) ∧ Below w.heap.size w w' := by
  go_enter Tryd.func25, Tryd.ntmps25
  go_wp2
  all_goals go_ret
  all_goals refine ⟨ret_bool ?_, (Below.refl _ _).alloc (Nat.le_refl _) _⟩
  all_goals (rw [Bool.eq_iff_iff]; simp; try omega)

theorem aligned_any (base order : Int) (w : World) :
    Calls Tryd.prog 34 #[.int .i64 base, .int .i64 order] w fun e w' => e = .returned (.bool (alignedB base order)) ∧ w = w' := by
  go_enter Tryd.func34, Tryd.ntmps34
  go_wp2
  all_goals go_ret
  all_goals refine ⟨ret_bool ?_, rfl⟩
  all_goals unfold alignedB
  · refine (mask_test base order (by assumption) (by assumption) (by assumption) (by assumption)).trans ?_
    rw [Bool.eq_iff_iff]; simp only [decide_eq_true_eq]
    exact ⟨fun h => ⟨by assumption, by assumption, by assumption, by assumption, h⟩, fun h => h.2.2.2.2⟩
  all_goals (refine Eq.symm (decide_eq_false ?_); omega)

/-- a whole struct stored into the block that was made last -/
theorem wpList_store_new {P : Program} {ops : Array Oper} {rest : List Oper} {op : Oper} {a : Act} {w : World} {Q : Exit → Act → World → Prop} (ty : TypeId) (hgd : op.guard = none) (x y : Operand) (ho : op.op = .store ty x y)
    (c c' : Array Value) (hx : a.eval x = .pointer (some ⟨w.heap.size, 0, none⟩)) (hy : a.eval y = .agg c') (hi : (P.info? ty).map (·.size) = some c'.size) (hs : c.size = c'.size) (h1 : c'.all (·.oneCell') = true)
    (h : wpList P ops Q rest (a.put op.dst undef) (w.alloc (.cells c' ty))) : wpList P ops Q (op :: rest) a (w.alloc (.cells c ty)) :=
  wpList_plain hgd fun K hK => by
    unfold Oper.wp execOp
    simp only [ho, hx, hy, Sem.run_bind, run_storeAt_new w ty c c' hi hs h1, Sem.run_pure, Result.andThen_ok]
    exact hK _ _ h

/-- operations without guards that are run one behind the other -/
def runOps (P : Program) : List Oper → Act → World → Option (Act × World)
  | [], a, w => some (a, w)
  | o :: r, a, w =>
    match o.guard, (execOp a.eval o).run P w with
    | none, .ok (.value v) w' => runOps P r (a.put o.dst v) w'
    | _, _ => none

theorem wpList_runs {P : Program} {ops : Array Oper} {Q : Exit → Act → World → Prop} (n : Nat) {l : List Oper} {a a' : Act} {w w' : World}
    (hr : runOps P (l.take n) a w = some (a', w')) (h : wpList P ops Q (l.drop n) a' w') : wpList P ops Q l a w := by
  induction n generalizing l a w with
  | zero =>
    simp only [List.take_zero, runOps, Option.some.injEq, Prod.mk.injEq] at hr
    obtain ⟨rfl, rfl⟩ := hr
    exact h
  | succ n ih =>
    match l with
    | [] =>
      simp only [List.take_nil, runOps, Option.some.injEq, Prod.mk.injEq] at hr
      obtain ⟨rfl, rfl⟩ := hr
      exact h
    | o :: r =>
      simp only [List.take_succ_cons, runOps] at hr
      split at hr
      · rename_i v w1 hg ho
        exact wpList_plain hg fun K hK => by
          unfold Oper.wp
          rw [ho]
          exact hK _ _ (ih hr h)
      · cases hr

def layoutC : Array Value := #[.int .u64 0, .int .u64 8, .int .i64 255, .int .u64 8, .int .u64 8, .int .i64 18, .int .u64 16, .int .u64 4, .int .i64 8, .int .u64 20, .int .u64 2, .int .i64 2,
  .int .u64 22, .int .u64 1, .int .i64 1, .int .u64 24, .int .u64 8, .int .i64 255, .int .u64 32, .int .u64 8, .int .i64 255, .int .u64 40, .int .u64 21, .int .i64 1048576]

def zero51 : Array Value := #[.int .u64 0, .int .u64 0, .int .i64 0, .int .u64 0, .int .u64 0, .int .i64 0, .int .u64 0, .int .u64 0, .int .i64 0, .int .u64 0, .int .u64 0, .int .i64 0, .int .u64 0, .int .u64 0, .int .i64 0, .int .u64 0, .int .u64 0, .int .i64 0, .int .u64 0, .int .u64 0, .int .i64 0, .int .u64 0, .int .u64 0, .int .i64 0]
theorem info_layout : (Tryd.prog.info? 51).map (·.size) = some 24 := by kernel_rfl

theorem layout_any (w : World) : Calls Tryd.prog 23 #[] w fun e w' => e = .returned (.agg layoutC) ∧ Below w.heap.size w w' := by
  go_enter Tryd.func23, Tryd.ntmps23
  iterate 11 go_step
  refine wpList_runs (w' := w.alloc (.cells zero51 51)) (a' := ⟨#[.pointer (some ⟨w.heap.size, 0, none⟩), .agg #[.int .u64 0, .int .u64 8], .agg #[.int .u64 0, .int .u64 8, .int .i64 255], .agg #[.int .u64 8, .int .u64 8], .agg #[.int .u64 8, .int .u64 8, .int .i64 18],
    .agg #[.int .u64 16, .int .u64 4], .agg #[.int .u64 16, .int .u64 4, .int .i64 8], .agg #[.int .u64 20, .int .u64 2], .agg #[.int .u64 20, .int .u64 2, .int .i64 2], .agg #[.int .u64 22, .int .u64 1], .agg #[.int .u64 22, .int .u64 1, .int .i64 1],
    .agg #[.int .u64 24, .int .u64 8], .agg #[.int .u64 24, .int .u64 8, .int .i64 255], .agg #[.int .u64 32, .int .u64 8], .agg #[.int .u64 32, .int .u64 8, .int .i64 255], .agg #[.int .u64 40, .int .u64 21], .agg #[.int .u64 40, .int .u64 21, .int .i64 1048576], .agg layoutC], []⟩) 17 ?hr ?hn
  case hr => kernel_rfl
  refine wpList_store_new 51 rfl (.tmp 0) (.tmp 17) rfl _ layoutC rfl rfl info_layout rfl (by kernel_rfl) ?_
  go_wp2
  refine bodyPost_ret (v := .agg layoutC) (results_cell_row Tryd.results23 _ _ w.heap.size _ layoutC (0, 0) _ rfl (heap_alloc_new w _) Tryd.underlying51 rfl info_layout) rfl ⟨rfl, (Below.refl _ _).alloc (Nat.le_refl _) _⟩
theorem code_yes (i : Itm) (w : World) (h : mayI i = true) :
    Calls Tryd.prog 24 #[.agg #[.int .i64 i.base, .int .i64 i.order, .int .i64 i.rights, .int .i64 i.off, .bool i.grant]] w fun e w' => e = .returned (.tuple #[.int .u64 ((codeI i : Nat) : Int), .bool true]) ∧ Below w.heap.size w w' := by
  have hp := (mayI_iff i).1 h
  obtain ⟨⟨q1, q2, q3, q4, q0⟩, q5, q6, q7, q8⟩ := hp
  have ha : alignedB i.base i.order = true := by simp only [alignedB, decide_eq_true_eq]; exact ⟨q1, q2, q3, q4, q0⟩
  have hw : ∀ g, i.grant = g → IntKind.u64.wrap ((codeI ⟨i.base, i.order, i.rights, i.off, g⟩ : Nat) : Int) = ((codeI i : Nat) : Int) := by
    rintro g rfl
    have := codeI_lt i h
    rw [IntKind.wrap_u64]
    show ((codeI i : Nat) : Int) % _ = _
    omega
  have Hw := Lib.hid hw
  have H1 := Lib.hid (code_word i h)
  have H2 := Lib.hid (code_grant i h)
  clear h q0 hw
  go_enter Tryd.func24, Tryd.ntmps24
  go_wp2_with (go_at_call 34; refine (aligned_any _ _ _).mono ?_; rintro e w1 ⟨rfl, rfl⟩)
  all_goals go_ret2
  all_goals refine ⟨?_, (Below.refl _ _).alloc (Nat.le_refl _) _⟩
  · have hg : i.grant = true := by assumption
    have e : ∀ x y : Int, x = y → Ending.returned (.tuple #[.int .u64 x, .bool true]) = .returned (.tuple #[.int .u64 y, .bool true]) := by rintro x y rfl; rfl
    refine e _ _ ?_
    rw [H1.out, H2.out]
    exact Hw.out true hg
  · have hg : i.grant = false := by assumption
    have e : ∀ x y : Int, x = y → Ending.returned (.tuple #[.int .u64 x, .bool true]) = .returned (.tuple #[.int .u64 y, .bool true]) := by rintro x y rfl; rfl
    refine e _ _ ?_
    rw [H1.out]
    exact Hw.out false hg

theorem code_no (i : Itm) (w : World) (h : mayI i = false) :
    Calls Tryd.prog 24 #[.agg #[.int .i64 i.base, .int .i64 i.order, .int .i64 i.rights, .int .i64 i.off, .bool i.grant]] w fun e w' => e = .returned (.tuple #[.int .u64 0, .bool false]) ∧ Below w.heap.size w w' := by
  have Hn := Lib.hid h
  clear h
  by_cases ha : alignedB i.base i.order = true
  · go_enter Tryd.func24, Tryd.ntmps24
    go_wp2_with (go_at_call 34; refine (aligned_any _ _ _).mono ?_; rintro e w1 ⟨rfl, rfl⟩)
    all_goals first
      | (exfalso; exact not_mayI Hn.out ha (by omega) (by omega) (by omega) (by omega))
      | (go_ret2; exact ⟨rfl, (Below.refl _ _).alloc (Nat.le_refl _) _⟩)
  · have ha : alignedB i.base i.order = false := by simpa using ha
    go_enter Tryd.func24, Tryd.ntmps24
    go_wp2_with (go_at_call 34; refine (aligned_any _ _ _).mono ?_; rintro e w1 ⟨rfl, rfl⟩)
    all_goals go_ret2
    all_goals exact ⟨rfl, (Below.refl _ _).alloc (Nat.le_refl _) _⟩

set_option maxHeartbeats 800000 in
theorem item_yes (x : Nat) (w : World) (hx : x < 18446744073709551616) (h : itemOk x = true) :
    Calls Tryd.prog 31 #[.int .u64 (x : Int)] w fun e w' => e = .returned (.tuple #[.agg #[.int .i64 (itemOf x).base, .int .i64 (itemOf x).order, .int .i64 (itemOf x).rights, .int .i64 (itemOf x).off, .bool (itemOf x).grant], .bool true]) ∧ Below w.heap.size w w' := by
  have f0 := item_f0 x hx
  have f1 := item_f1 x hx
  have f2 := item_f2 x hx
  have f3 := item_f3 x hx
  have f4 := item_f4 x hx
  obtain ⟨hm, hc⟩ := (itemOk_iff x).1 h
  have Hm := Lib.hid hm
  have ec : ((codeI (itemOf x) : Nat) : Int) = (x : Int) := by rw [hc]
  clear hx h hm hc
  go_enter Tryd.func31, Tryd.ntmps31
  go_wp2_with (go_at_call 24; refine (code_yes (itemOf x) _ Hm.out).mono ?_; rintro e w1 ⟨rfl, hb⟩; obtain ⟨hc, hf⟩ := bcell hb; have hz : w.heap.size + 1 < w1.heap.size := by have := hb.size; simp at this; omega)
  have q0 : w1.cell? ⟨w.heap.size, 0, none⟩ = some (.int .i64 0) := (hc _ _ (by simp; omega)).trans (by simp)
  have q1 : w1.cell? ⟨w.heap.size, 1, none⟩ = some (.int .i64 0) := (hc _ _ (by simp; omega)).trans (by simp)
  have q2 : w1.cell? ⟨w.heap.size, 2, none⟩ = some (.int .i64 0) := (hc _ _ (by simp; omega)).trans (by simp)
  have q3 : w1.cell? ⟨w.heap.size, 3, none⟩ = some (.int .i64 0) := (hc _ _ (by simp; omega)).trans (by simp)
  have q4 : w1.cell? ⟨w.heap.size, 4, none⟩ = some (.bool false) := (hc _ _ (by simp; omega)).trans (by simp)
  refine bodyPost_ret (v := .tuple #[.agg #[.int .i64 (itemOf x).base, .int .i64 (itemOf x).order, .int .i64 (itemOf x).rights, .int .i64 (itemOf x).off, .bool (itemOf x).grant], .bool true]) (by simp [results, Tryd.results31, go_sem, q0, q1, q2, q3, q4]) rfl ⟨rfl, ?_⟩
  have hb0 : Below w.heap.size w w1 := (((Below.refl _ _).alloc (Nat.le_refl _) _).alloc (by simp) _).trans (hb.mono (by simp; omega))
  repeat (first | (with_reducible exact hb0) | (with_reducible refine Below.setCell ?_ (by simp) _))

set_option maxHeartbeats 800000 in
theorem item_no (x : Nat) (w : World) (hx : x < 18446744073709551616) (h : itemOk x = false) :
    Calls Tryd.prog 31 #[.int .u64 (x : Int)] w fun e w' => e = .returned (.tuple #[.agg #[.int .i64 0, .int .i64 0, .int .i64 0, .int .i64 0, .bool false], .bool false]) ∧ Below w.heap.size w w' := by
  have f0 := item_f0 x hx
  have f1 := item_f1 x hx
  have f2 := item_f2 x hx
  have f3 := item_f3 x hx
  have f4 := item_f4 x hx
  by_cases hm : mayI (itemOf x) = true
  · have ec : ((codeI (itemOf x) : Nat) : Int) ≠ (x : Int) := by
      intro e
      have : codeI (itemOf x) = x := by omega
      rw [(itemOk_iff x).2 ⟨hm, this⟩] at h
      cases h
    have ec1 : (((codeI (itemOf x) : Nat) : Int) != (x : Int)) = true := by simpa using ec
    have ec2 : (((codeI (itemOf x) : Nat) : Int) == (x : Int)) = false := by simpa using ec
    have Hm := Lib.hid hm
    clear hx h hm ec
    go_enter Tryd.func31, Tryd.ntmps31
    go_wp2_with (go_at_call 24; refine (code_yes (itemOf x) _ Hm.out).mono ?_; rintro e w1 ⟨rfl, hb⟩; obtain ⟨hc, hf⟩ := bcell hb; have hz : w.heap.size + 1 < w1.heap.size := by have := hb.size; simp at this; omega)
    have q0 : w1.cell? ⟨w.heap.size, 0, none⟩ = some (.int .i64 0) := (hc _ _ (by simp; omega)).trans (by simp)
    have q1 : w1.cell? ⟨w.heap.size, 1, none⟩ = some (.int .i64 0) := (hc _ _ (by simp; omega)).trans (by simp)
    have q2 : w1.cell? ⟨w.heap.size, 2, none⟩ = some (.int .i64 0) := (hc _ _ (by simp; omega)).trans (by simp)
    have q3 : w1.cell? ⟨w.heap.size, 3, none⟩ = some (.int .i64 0) := (hc _ _ (by simp; omega)).trans (by simp)
    have q4 : w1.cell? ⟨w.heap.size, 4, none⟩ = some (.bool false) := (hc _ _ (by simp; omega)).trans (by simp)
    refine bodyPost_ret (v := .tuple #[.agg #[.int .i64 0, .int .i64 0, .int .i64 0, .int .i64 0, .bool false], .bool false]) (by simp [results, Tryd.results31, go_sem, q0, q1, q2, q3, q4]) rfl ⟨rfl, ?_⟩
    have hb0 : Below w.heap.size w w1 := (((Below.refl _ _).alloc (Nat.le_refl _) _).alloc (by simp) _).trans (hb.mono (by simp; omega))
    repeat (first | (with_reducible exact hb0) | (with_reducible refine Below.setCell ?_ (by simp) _))
  · have Hm := Lib.hid (show mayI (itemOf x) = false by simpa using hm)
    clear hx h hm
    go_enter Tryd.func31, Tryd.ntmps31
    go_wp2_with (go_at_call 24; refine (code_no (itemOf x) _ Hm.out).mono ?_; rintro e w1 ⟨rfl, hb⟩; obtain ⟨hc, hf⟩ := bcell hb; have hz : w.heap.size + 1 < w1.heap.size := by have := hb.size; simp at this; omega)
    have q0 : w1.cell? ⟨w.heap.size, 0, none⟩ = some (.int .i64 0) := (hc _ _ (by simp; omega)).trans (by simp)
    have q1 : w1.cell? ⟨w.heap.size, 1, none⟩ = some (.int .i64 0) := (hc _ _ (by simp; omega)).trans (by simp)
    have q2 : w1.cell? ⟨w.heap.size, 2, none⟩ = some (.int .i64 0) := (hc _ _ (by simp; omega)).trans (by simp)
    have q3 : w1.cell? ⟨w.heap.size, 3, none⟩ = some (.int .i64 0) := (hc _ _ (by simp; omega)).trans (by simp)
    have q4 : w1.cell? ⟨w.heap.size, 4, none⟩ = some (.bool false) := (hc _ _ (by simp; omega)).trans (by simp)
    refine bodyPost_ret (v := .tuple #[.agg #[.int .i64 0, .int .i64 0, .int .i64 0, .int .i64 0, .bool false], .bool false]) (by simp [results, Tryd.results31, go_sem, q0, q1, q2, q3, q4]) rfl ⟨rfl, ?_⟩
    have hb0 : Below w.heap.size w w1 := (((Below.refl _ _).alloc (Nat.le_refl _) _).alloc (by simp) _).trans (hb.mono (by simp; omega))
    repeat (first | (with_reducible exact hb0) | (with_reducible refine Below.setCell ?_ (by simp) _))
end Go.Proofs.YtmjkljgccaipoaaDoor
