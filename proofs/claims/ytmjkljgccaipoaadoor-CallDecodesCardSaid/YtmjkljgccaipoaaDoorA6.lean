/- Contracts of the references' comparisons: Words, Same of messages, Same of calls. -/
import Derived.Test.YtmjkljgccaipoaaDoorA4
namespace Go.Proofs.YtmjkljgccaipoaaDoor
open Go.RowKit

theorem u64s_at (l : List Nat) (k : Nat) (h : k < l.length) : (u64s l)[k]? = some (.int .u64 ((l[k] : Nat) : Int)) := by
  simp [u64s, List.getElem?_eq_getElem h]

theorem SlR.word {w : World} {A : Option Addr} {l : List Nat} (h : SlR w A (u64s l)) {k : Nat} (hk : k < l.length) :
    ∃ b off, A = some ⟨b, off, none⟩ ∧ b < w.heap.size ∧ ∀ j (hj : j < l.length), w.cell? ⟨b, off + j, none⟩ = some (.int .u64 ((l[j] : Nat) : Int)) := by
  obtain ⟨b, off, e, hlt, hc⟩ := h (fun e => by have := u64s_length l; rw [e] at this; simp at this; omega)
  exact ⟨b, off, e, hlt, fun j hj => hc _ _ (u64s_at l j hj)⟩

theorem below_drewN {B : Nat} {a w : World} (h : Below B a w) (n : Nat) : Below B a (w.drewN n) := ⟨h.os, h.tape, h.output, h.size, h.block⟩

def eqL (l m : List Nat) : Bool := decide (l = m)

set_option maxHeartbeats 800000 in
theorem words_any (l m : List Nat) (A B : Option Addr) (cl cm : Nat) (w : World) (hA : SlR w A (u64s l)) (hB : SlR w B (u64s m)) (hl : l.length ≤ 9223372036854775807) (hm : m.length ≤ 9223372036854775807) :
    Calls Tryd.prog 14 #[.slice A l.length cl, .slice B m.length cm] w fun e w' => e = .returned (.bool (eqL l m)) ∧ Below w.heap.size w w' := by
  by_cases hlm : l.length = m.length
  · have hb0 : ((l.length : Int) != (m.length : Int)) = false := by rw [hlm]; simp
    have HA := Lib.hid hA
    have HB := Lib.hid hB
    have HL := Lib.hid hlm
    clear hA hB hlm
    go_enter Tryd.func14, Tryd.ntmps14
    go_wp2_with fail
    go_loopw [5] (fun i wr => ∃ k : Nat, k ≤ l.length ∧ i = .int .i64 k ∧ l.take k = m.take k ∧ Below w.heap.size w wr) (fun i _ => l.length - (intOf i).toNat)
    case atStart => exact ⟨0, Nat.zero_le _, rfl, rfl, Below.refl _ _⟩
    case round =>
      obtain ⟨k, hk, rfl, heq, hwr⟩ := hrel
      have Heq := Lib.hid heq
      have Hwr := Lib.hid hwr
      clear heq hwr
      by_cases hlt : k < l.length
      · have hlt2 : k < m.length := by rw [← HL.out]; exact hlt
        obtain ⟨b, off, rfl, hbb, hc⟩ := (HA.out.below Hwr.out).word hlt
        obtain ⟨b2, off2, rfl, hbb2, hc2⟩ := (HB.out.below Hwr.out).word hlt2
        have q1 := hc k hlt
        have q2 := hc2 k hlt2
        clear hc hc2
        have i1 : (0 : Int) ≤ (k : Int) := Int.natCast_nonneg _
        have i2 : (k : Int) < (l.length : Int) := by omega
        have i3 : (k : Int) < (m.length : Int) := by omega
        by_cases he : l[k] = m[k]
        · have t1 : ((l[k] : Int) != (m[k] : Int)) = false := by simp [he]
          have He := Lib.hid he
          clear he
          go_wp2_with fail
          go_quiet (fail)
          go_wp2
          go_roundw
          case rel =>
            refine ⟨k + 1, by omega, by go_num, ?_, below_drewN Hwr.out nq⟩
            rw [List.take_succ_eq_append_getElem hlt, List.take_succ_eq_append_getElem hlt2, Heq.out, He.out]
          case measure => simp [intOf]; omega
        · have t1 : ((l[k] : Int) != (m[k] : Int)) = true := by simp; omega
          have He := Lib.hid he
          clear he
          go_wp2_with fail
          go_quiet (fail)
          go_wp2
          go_ret
          refine ⟨ret_bool ?_, below_drewN Hwr.out nq⟩
          refine (decide_eq_false ?_).symm
          intro e
          apply He.out
          simp only [e]
      · have Hlt := Lib.hid hlt
        go_wp2
        go_ret
        refine ⟨ret_bool ?_, Hwr.out⟩
        refine (decide_eq_true ?_).symm
        have h := Heq.out
        rw [List.take_of_length_le (by omega), List.take_of_length_le (by have := HL.out; omega)] at h
        exact h
  · have hb0 : ((l.length : Int) != (m.length : Int)) = true := by simp; omega
    have HL := Lib.hid hlm
    clear hlm
    go_enter Tryd.func14, Tryd.ntmps14
    go_wp2
    go_ret
    refine ⟨ret_bool ?_, Below.refl _ _⟩
    refine (decide_eq_false ?_).symm
    rintro rfl
    exact HL.out rfl

/-- two blocks that were made just ahead of a call that only makes blocks -/
theorem box2_after {w w1 : World} {cs ds : Array Value} {t u : TypeId} (hb : Below ((w.alloc (.cells cs t)).alloc (.cells ds u)).heap.size ((w.alloc (.cells cs t)).alloc (.cells ds u)) w1) :
    Below w.heap.size w w1 ∧ (∀ i, w1.cell? ⟨w.heap.size, i, none⟩ = cs[i]?) ∧ (∀ i, w1.cell? ⟨w.heap.size + 1, i, none⟩ = ds[i]?) ∧ w.heap.size + 1 < w1.heap.size := by
  refine ⟨(((Below.refl _ _).alloc (Nat.le_refl _) _).alloc (by simp) _).trans (hb.mono (by simp; omega)), fun i => ?_, fun i => ?_, ?_⟩
  · exact (hb.cell (p := ⟨w.heap.size, i, none⟩) (by simp; omega)).trans (by simp)
  · exact (hb.cell (p := ⟨w.heap.size + 1, i, none⟩) (by simp)).trans (by simp)
  · have := hb.size; simp at this; omega

/-! ## messages -/
def eqI (i j : Itm) : Bool := decide (i.base = j.base ∧ i.order = j.order ∧ i.rights = j.rights ∧ i.off = j.off ∧ i.grant = j.grant)
def eqIs : List Itm → List Itm → Bool
  | [], [] => true
  | i :: l, j :: m => eqI i j && eqIs l m
  | _, _ => false
theorem eqI_iff (i j : Itm) : eqI i j = true ↔ i = j := by
  obtain ⟨a, b, c, d, e⟩ := i
  obtain ⟨a', b', c', d', e'⟩ := j
  simp [eqI]
theorem eqIs_iff : ∀ l m : List Itm, eqIs l m = true ↔ l = m
  | [], [] => by simp [eqIs]
  | i :: l, [] => by simp [eqIs]
  | [], j :: m => by simp [eqIs]
  | i :: l, j :: m => by simp [eqIs, eqI_iff, eqIs_iff l m]

theorem run_neq_item (i j : Itm) (w : World) : (binOp .neq 54 (.agg #[.int .i64 i.base, .int .i64 i.order, .int .i64 i.rights, .int .i64 i.off, .bool i.grant]) (.agg #[.int .i64 j.base, .int .i64 j.order, .int .i64 j.rights, .int .i64 j.off, .bool j.grant])).run Tryd.prog w = .ok (.bool (!eqI i j)) w := by
  obtain ⟨a, b, c, d, e⟩ := i
  obtain ⟨a', b', c', d', e'⟩ := j
  by_cases h1 : a = a'
  · by_cases h2 : b = b'
    · by_cases h3 : c = c'
      · by_cases h4 : d = d'
        · cases e <;> cases e' <;> simp [eqI, go_sem, h1, h2, h3, h4]
        · simp [eqI, go_sem, h1, h2, h3, h4]
      · simp [eqI, go_sem, h1, h2, h3]
    · simp [eqI, go_sem, h1, h2]
  · simp [eqI, go_sem, h1]

def sameM (la lb : Nat) (wa wb : List Nat) (ia ib : List Itm) : Bool := decide (la = lb) && eqL wa wb && eqIs ia ib

set_option maxRecDepth 100000 in
set_option maxHeartbeats 1600000 in
theorem same14_any (la lb : Nat) (wa wb : List Nat) (ia ib : List Itm) (A B C D : Option Addr) (ca cb cc cd : Nat) (w : World)
    (hA : SlR w A (u64s wa)) (hB : SlR w B (u64s wb)) (hC : SlR w C (itemCells ia)) (hD : SlR w D (itemCells ib))
    (l1 : wa.length ≤ 9223372036854775807) (l2 : wb.length ≤ 9223372036854775807) (l3 : ia.length ≤ 9223372036854775807) (_ : ib.length ≤ 9223372036854775807) :
    Calls Tryd.prog 33 #[.agg #[.int .u64 (la : Int), .slice A wa.length ca, .slice C ia.length cc], .agg #[.int .u64 (lb : Int), .slice B wb.length cb, .slice D ib.length cd]] w
      fun e w' => e = .returned (.bool (sameM la lb wa wb ia ib)) ∧ Below w.heap.size w w' := by
  have HA := Lib.hid hA
  have HB := Lib.hid hB
  have HC := Lib.hid hC
  have HD := Lib.hid hD
  clear hA hB hC hD
  by_cases e0 : la = lb
  · have t0 : ((la : Int) != (lb : Int)) = false := by simp [e0]
    have E0 := Lib.hid e0
    clear e0
    cases e1 : eqL wa wb
    · go_enter Tryd.func33, Tryd.ntmps33
      go_wp2_with (go_at_call 14; refine (words_any wa wb A B ca cb _ ((HA.out.below ((Below.refl _ _).alloc (Nat.le_refl _) _)).below ((Below.refl _ _).alloc (Nat.le_refl _) _)) ((HB.out.below ((Below.refl _ _).alloc (Nat.le_refl _) _)).below ((Below.refl _ _).alloc (Nat.le_refl _) _)) l1 l2).mono ?_; rintro e w1 ⟨rfl, hb⟩)
      go_ret
      refine ⟨ret_bool ?_, (((Below.refl _ _).alloc (Nat.le_refl _) _).alloc (by simp) _).trans (hb.mono (by simp; omega))⟩
      simp [sameM, e1]
    · by_cases e2 : ia.length = ib.length
      · have t2 : ((ia.length : Int) != (ib.length : Int)) = false := by simp [e2]
        have E2 := Lib.hid e2
        clear e2
        go_enter Tryd.func33, Tryd.ntmps33
        go_wp2_with (go_at_call 14; refine (words_any wa wb A B ca cb _ ((HA.out.below ((Below.refl _ _).alloc (Nat.le_refl _) _)).below ((Below.refl _ _).alloc (Nat.le_refl _) _)) ((HB.out.below ((Below.refl _ _).alloc (Nat.le_refl _) _)).below ((Below.refl _ _).alloc (Nat.le_refl _) _)) l1 l2).mono ?_; rintro e w1 ⟨rfl, hb⟩; obtain ⟨hbw, hc0, hc1, hz1⟩ := box2_after hb; clear hb; have y2 : w1.cell? ⟨w.heap.size, 2, none⟩ = some (.slice C ia.length cc) := (hc0 2).trans rfl; have z2 : w1.cell? ⟨w.heap.size + 1, 2, none⟩ = some (.slice D ib.length cd) := (hc1 2).trans rfl)
        have Hbw := Lib.hid hbw
        clear hbw hc0 hc1
        go_loopw [5] (fun i wr => ∃ k : Nat, k ≤ ia.length ∧ i = .int .i64 k ∧ ia.take k = ib.take k ∧ Below w1.heap.size w1 wr) (fun i _ => ia.length - (intOf i).toNat)
        case atStart => exact ⟨0, Nat.zero_le _, rfl, rfl, Below.refl _ _⟩
        case round =>
          obtain ⟨k, hk, rfl, heq, hwr⟩ := hrel
          have Heq := Lib.hid heq
          have Hwr := Lib.hid hwr
          have y2' : wr.cell? ⟨w.heap.size, 2, none⟩ = some (.slice C ia.length cc) := (hwr.cell (p := ⟨w.heap.size, 2, none⟩) (by simp; omega)).trans y2
          have z2' : wr.cell? ⟨w.heap.size + 1, 2, none⟩ = some (.slice D ib.length cd) := (hwr.cell (p := ⟨w.heap.size + 1, 2, none⟩) (by simp; omega)).trans z2
          clear heq hwr
          by_cases hlt : k < ia.length
          · have hlt2 : k < ib.length := by rw [← E2.out]; exact hlt
            obtain ⟨b, off, rfl, hbb, p0, p1, p2, p3, p4⟩ := ((HC.out.below Hbw.out).below Hwr.out).item hlt
            obtain ⟨b2, off2, rfl, hbb2, q0, q1, q2, q3, q4⟩ := ((HD.out.below Hbw.out).below Hwr.out).item hlt2
            have i1 : (0 : Int) ≤ (k : Int) := Int.natCast_nonneg _
            have i2 : (k : Int) < (ia.length : Int) := by omega
            have i3 : (k : Int) < (ib.length : Int) := by omega
            by_cases he : eqI ia[k] ib[k] = true
            · have hn := fun W => run_neq_item ia[k] ib[k] W
              simp only [he, Bool.not_true] at hn
              have He := Lib.hid ((eqI_iff _ _).1 he)
              clear he
              go_wp2_with fail
              go_quiet (fail)
              go_wp2
              go_roundw
              case rel =>
                refine ⟨k + 1, by omega, by go_num, ?_, below_drewN Hwr.out nq⟩
                rw [List.take_succ_eq_append_getElem hlt, List.take_succ_eq_append_getElem hlt2, Heq.out, He.out]
              case measure => simp [intOf]; omega
            · have he' : eqI ia[k] ib[k] = false := by simpa using he
              have hn := fun W => run_neq_item ia[k] ib[k] W
              simp only [he', Bool.not_false] at hn
              have He := Lib.hid he
              clear he he'
              go_wp2_with fail
              go_quiet (fail)
              go_wp2
              go_ret
              refine ⟨ret_bool ?_, Hbw.out.trans (below_drewN (Hwr.out.mono Hbw.out.size) nq)⟩
              have : eqIs ia ib = false := by
                cases hx : eqIs ia ib
                · rfl
                · exfalso
                  apply He.out
                  have := (eqIs_iff _ _).1 hx
                  simp only [this]
                  exact (eqI_iff _ _).2 rfl
              simp [sameM, this]
          · go_wp2
            go_ret
            refine ⟨ret_bool ?_, Hbw.out.trans (Hwr.out.mono Hbw.out.size)⟩
            have h := Heq.out
            rw [List.take_of_length_le (by omega), List.take_of_length_le (by have := E2.out; omega)] at h
            simp [sameM, e1, E0.out, (eqIs_iff ia ib).2 h]
      · have t2 : ((ia.length : Int) != (ib.length : Int)) = true := by simp; omega
        have E2 := Lib.hid e2
        clear e2
        go_enter Tryd.func33, Tryd.ntmps33
        go_wp2_with (go_at_call 14; refine (words_any wa wb A B ca cb _ ((HA.out.below ((Below.refl _ _).alloc (Nat.le_refl _) _)).below ((Below.refl _ _).alloc (Nat.le_refl _) _)) ((HB.out.below ((Below.refl _ _).alloc (Nat.le_refl _) _)).below ((Below.refl _ _).alloc (Nat.le_refl _) _)) l1 l2).mono ?_; rintro e w1 ⟨rfl, hb⟩; obtain ⟨hbw, hc0, hc1, hz1⟩ := box2_after hb; clear hb; have y2 : w1.cell? ⟨w.heap.size, 2, none⟩ = some (.slice C ia.length cc) := (hc0 2).trans rfl; have z2 : w1.cell? ⟨w.heap.size + 1, 2, none⟩ = some (.slice D ib.length cd) := (hc1 2).trans rfl)
        go_ret
        refine ⟨ret_bool ?_, hbw⟩
        have : eqIs ia ib = false := by
          cases hx : eqIs ia ib
          · rfl
          · exact absurd (congrArg List.length ((eqIs_iff _ _).1 hx)) E2.out
        simp [sameM, this]
  · have t0 : ((la : Int) != (lb : Int)) = true := by simp; omega
    have E0 := Lib.hid e0
    clear e0
    go_enter Tryd.func33, Tryd.ntmps33
    go_wp2
    go_ret
    exact ⟨ret_bool (by simp [sameM, E0.out]), (((Below.refl _ _).alloc (Nat.le_refl _) _).alloc (by simp) _)⟩
end Go.Proofs.YtmjkljgccaipoaaDoor
