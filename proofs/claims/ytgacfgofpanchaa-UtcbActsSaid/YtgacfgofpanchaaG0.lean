/- The contracts of the reference's Words and Same. Condition: what is compared is read. -/
import Derived.Test.YtgacfgofpanchaaProg
import Derived.Test.YtgacfgofpanchaaK9
import Derived.WalkKit
import Derived.WalkLawsBesides
import Derived.WalkSpells
import Derived.Deep.QuietTactic
import Derived.BigQuiet
import Derived.Deep.RegionHeld3
import Derived.Deep.RegionLaw
import Derived.Outline
import Derived.Lib.LazyBuf
import Derived.Deep.WholeRow
namespace Go.Proofs.Ytgacfgofpanchaa
open Go.RowKit

def itemCells (l : List Itm) : List Value := l.flatMap Itm.cells
theorem itemCells_at : ∀ (l : List Itm) (k j : Nat) (i : Itm), l[k]? = some i → j < 5 → (itemCells l)[k * 5 + j]? = i.cells[j]?
  | [], k, j, i, h, _ => by simp at h
  | x :: l, 0, j, i, h, hj => by
    simp at h; subst h
    simp only [itemCells, List.flatMap_cons, Nat.zero_mul, Nat.zero_add]
    rw [List.getElem?_append_left (by simpa [Itm.cells] using hj)]
  | x :: l, k + 1, j, i, h, hj => by
    have := itemCells_at l k j i (by simpa using h) hj
    simp only [itemCells, List.flatMap_cons] at this ⊢
    rw [List.getElem?_append_right (by simp [Itm.cells]; omega), show (k + 1) * 5 + j - x.cells.length = k * 5 + j by simp [Itm.cells]; omega]
    exact this
/-- the cells of one item of a slice -/
theorem SlR.item {w : World} {B : Option Addr} {l : List Itm} (h : SlR w B (itemCells l)) {k : Nat} (hk : k < l.length) :
    ∃ b off, B = some ⟨b, off, none⟩ ∧ b < w.heap.size ∧ w.cell? ⟨b, off + k * 5, none⟩ = some (.int .i64 l[k].base) ∧ w.cell? ⟨b, off + k * 5 + 1, none⟩ = some (.int .i64 l[k].order) ∧
      w.cell? ⟨b, off + k * 5 + 2, none⟩ = some (.int .i64 l[k].rights) ∧ w.cell? ⟨b, off + k * 5 + 3, none⟩ = some (.int .i64 l[k].off) ∧ w.cell? ⟨b, off + k * 5 + 4, none⟩ = some (.bool l[k].grant) := by
  have hat := fun j (hj : j < 5) => itemCells_at l k j l[k] (List.getElem?_eq_getElem hk) hj
  obtain ⟨b, off, e, hlt, hc⟩ := h (fun e => by have := hat 0 (by omega); rw [e] at this; simp [Itm.cells] at this)
  exact ⟨b, off, e, hlt, hc _ _ (hat 0 (by omega)), hc _ _ (hat 1 (by omega)), hc _ _ (hat 2 (by omega)), hc _ _ (hat 3 (by omega)), hc _ _ (hat 4 (by omega))⟩
/-- a block that was made just ahead of a call that only makes blocks -/
theorem box_after {w w1 : World} {cs : Array Value} {t : TypeId} (hb : Below (w.alloc (.cells cs t)).heap.size (w.alloc (.cells cs t)) w1) :
    Below w.heap.size w w1 ∧ (∀ i, w1.cell? ⟨w.heap.size, i, none⟩ = cs[i]?) ∧ w.heap.size < w1.heap.size := by
  refine ⟨((Below.refl _ _).alloc (Nat.le_refl _) _).trans (hb.mono (by simp)), fun i => ?_, ?_⟩
  · exact (hb.cell (p := ⟨w.heap.size, i, none⟩) (by simp)).trans (World.cell?_alloc_new w cs t i)
  · have := hb.size; simp at this; omega
theorem u64s_one (l : List Nat) : ∀ u ∈ u64s l, u.oneCell' = true := by
  intro u hu
  simp only [u64s, List.mem_map] at hu
  obtain ⟨x, _, rfl⟩ := hu
  rfl
theorem itemCells_one (l : List Itm) : ∀ u ∈ itemCells l, u.oneCell' = true := by
  intro u hu
  simp only [itemCells, List.mem_flatMap, Itm.cells] at hu
  obtain ⟨x, _, hu⟩ := hu
  simp only [List.mem_cons, List.not_mem_nil, or_false] at hu
  rcases hu with rfl | rfl | rfl | rfl | rfl <;> rfl
theorem itemCells_length (l : List Itm) : (itemCells l).length = l.length * 5 := by
  induction l with
  | nil => rfl
  | cons i l ih =>
    simp only [itemCells, List.flatMap_cons, List.length_append] at ih ⊢
    rw [ih]; simp [Itm.cells]; omega
theorem u64s_append (l m : List Nat) : u64s (l ++ m) = u64s l ++ u64s m := by simp [u64s]
theorem itemCells_append (l m : List Itm) : itemCells (l ++ m) = itemCells l ++ itemCells m := by simp [itemCells]
theorem u64s_at (l : List Nat) (k : Nat) (h : k < l.length) : (u64s l)[k]? = some (.int .u64 ((l[k] : Nat) : Int)) := by
  simp [u64s, List.getElem?_eq_getElem h]
def eqL (l m : List Nat) : Bool := decide (l = m)
set_option maxHeartbeats 800000 in
theorem words_any (l m : List Nat) (A B : Option Addr) (cl cm : Nat) (w : World) (hA : SlR w A (u64s l)) (hB : SlR w B (u64s m)) (hl : l.length ≤ 9223372036854775807) (hm : m.length ≤ 9223372036854775807) :
    Calls Try.prog 37 #[.slice A l.length cl, .slice B m.length cm] w fun e w' => e = .returned (.bool (eqL l m)) ∧ Below w.heap.size w w' := by
  by_cases hlm : l.length = m.length
  · have hb0 : ((l.length : Int) != (m.length : Int)) = false := by rw [hlm]; simp
    have HA := Lib.hid hA
    have HB := Lib.hid hB
    have HL := Lib.hid hlm
    clear hA hB hlm
    go_enter Try.func37, Try.ntmps37
    go_wp2_with fail
    go_loopw [5] (fun i wr => ∃ k : Nat, k ≤ l.length ∧ i = .int .i64 k ∧ l.take k = m.take k ∧ Below w.heap.size w wr) (fun i _ => l.length - (intOf i).toNat)
    case atStart => exact ⟨0, Nat.zero_le _, rfl, rfl, Below.refl _ _⟩
    case round =>
      obtain ⟨k, hk, rfl, heq, hwr⟩ := hrel
      have Heq := Lib.hid heq
      have Hwr := Lib.hid hwr
      clear heq hwr
      by_cases hlt : k < l.length
      · have hlt2 : k < m.length := by rw [← HL.out]; exact hlt
        obtain ⟨b, off, rfl, hbb, hc⟩ := (HA.out.below Hwr.out).word hlt
        obtain ⟨b2, off2, rfl, hbb2, hc2⟩ := (HB.out.below Hwr.out).word hlt2
        have q1 := hc k hlt
        have q2 := hc2 k hlt2
        clear hc hc2
        have i1 : (0 : Int) ≤ (k : Int) := Int.natCast_nonneg _
        have i2 : (k : Int) < (l.length : Int) := by omega
        have i3 : (k : Int) < (m.length : Int) := by omega
        by_cases he : l[k] = m[k]
        · have t1 : ((l[k] : Int) != (m[k] : Int)) = false := by simp [he]
          have He := Lib.hid he
          clear he
          go_wp2_with fail
          go_quiet (fail)
          go_wp2
          go_roundw
          case rel =>
            refine ⟨k + 1, by omega, by go_num, ?_, below_drewN Hwr.out nq⟩
            rw [List.take_succ_eq_append_getElem hlt, List.take_succ_eq_append_getElem hlt2, Heq.out, He.out]
          case measure => simp [intOf]; omega
        · have t1 : ((l[k] : Int) != (m[k] : Int)) = true := by simp; omega
          have He := Lib.hid he
          clear he
          go_wp2_with fail
          go_quiet (fail)
          go_wp2
          go_ret
          refine ⟨ret_bool ?_, below_drewN Hwr.out nq⟩
          refine (decide_eq_false ?_).symm
          intro e
          apply He.out
          simp only [e]
      · have Hlt := Lib.hid hlt
        go_wp2
        go_ret
        refine ⟨ret_bool ?_, Hwr.out⟩
        refine (decide_eq_true ?_).symm
        have h := Heq.out
        rw [List.take_of_length_le (by omega), List.take_of_length_le (by have := HL.out; omega)] at h
        exact h
  · have hb0 : ((l.length : Int) != (m.length : Int)) = true := by simp; omega
    have HL := Lib.hid hlm
    clear hlm
    go_enter Try.func37, Try.ntmps37
    go_wp2
    go_ret
    refine ⟨ret_bool ?_, Below.refl _ _⟩
    refine (decide_eq_false ?_).symm
    rintro rfl
    exact HL.out rfl
/-- two blocks that were made just ahead of a call that only makes blocks -/
theorem box2_after {w w1 : World} {cs ds : Array Value} {t u : TypeId} (hb : Below ((w.alloc (.cells cs t)).alloc (.cells ds u)).heap.size ((w.alloc (.cells cs t)).alloc (.cells ds u)) w1) :
    Below w.heap.size w w1 ∧ (∀ i, w1.cell? ⟨w.heap.size, i, none⟩ = cs[i]?) ∧ (∀ i, w1.cell? ⟨w.heap.size + 1, i, none⟩ = ds[i]?) ∧ w.heap.size + 1 < w1.heap.size := by
  refine ⟨(((Below.refl _ _).alloc (Nat.le_refl _) _).alloc (by simp) _).trans (hb.mono (by simp; omega)), fun i => ?_, fun i => ?_, ?_⟩
  · exact (hb.cell (p := ⟨w.heap.size, i, none⟩) (by simp; omega)).trans (by simp)
  · exact (hb.cell (p := ⟨w.heap.size + 1, i, none⟩) (by simp)).trans (by simp)
  · have := hb.size; simp at this; omega
def eqI (i j : Itm) : Bool := decide (i.base = j.base ∧ i.order = j.order ∧ i.rights = j.rights ∧ i.off = j.off ∧ i.grant = j.grant)
def eqIs : List Itm → List Itm → Bool
  | [], [] => true
  | i :: l, j :: m => eqI i j && eqIs l m
  | _, _ => false
theorem eqI_iff (i j : Itm) : eqI i j = true ↔ i = j := by
  obtain ⟨a, b, c, d, e⟩ := i
  obtain ⟨a', b', c', d', e'⟩ := j
  simp [eqI]
theorem eqIs_iff : ∀ l m : List Itm, eqIs l m = true ↔ l = m
  | [], [] => by simp [eqIs]
  | i :: l, [] => by simp [eqIs]
  | [], j :: m => by simp [eqIs]
  | i :: l, j :: m => by simp [eqIs, eqI_iff, eqIs_iff l m]
theorem run_neq_item (i j : Itm) (w : World) : (binOp .neq 24 (.agg #[.int .i64 i.base, .int .i64 i.order, .int .i64 i.rights, .int .i64 i.off, .bool i.grant]) (.agg #[.int .i64 j.base, .int .i64 j.order, .int .i64 j.rights, .int .i64 j.off, .bool j.grant])).run Try.prog w = .ok (.bool (!eqI i j)) w := by
  obtain ⟨a, b, c, d, e⟩ := i
  obtain ⟨a', b', c', d', e'⟩ := j
  by_cases h1 : a = a'
  · by_cases h2 : b = b'
    · by_cases h3 : c = c'
      · by_cases h4 : d = d'
        · cases e <;> cases e' <;> simp [eqI, go_sem, h1, h2, h3, h4]
        · simp [eqI, go_sem, h1, h2, h3, h4]
      · simp [eqI, go_sem, h1, h2, h3]
    · simp [eqI, go_sem, h1, h2]
  · simp [eqI, go_sem, h1]
def sameM (la lb : Nat) (wa wb : List Nat) (ia ib : List Itm) : Bool := decide (la = lb) && eqL wa wb && eqIs ia ib
set_option maxRecDepth 100000 in
set_option maxHeartbeats 1600000 in
theorem same14_any (la lb : Nat) (wa wb : List Nat) (ia ib : List Itm) (A B C D : Option Addr) (ca cb cc cd : Nat) (w : World)
    (hA : SlR w A (u64s wa)) (hB : SlR w B (u64s wb)) (hC : SlR w C (itemCells ia)) (hD : SlR w D (itemCells ib))
    (l1 : wa.length ≤ 9223372036854775807) (l2 : wb.length ≤ 9223372036854775807) (l3 : ia.length ≤ 9223372036854775807) (_ : ib.length ≤ 9223372036854775807) :
    Calls Try.prog 18 #[.agg #[.int .u64 (la : Int), .slice A wa.length ca, .slice C ia.length cc], .agg #[.int .u64 (lb : Int), .slice B wb.length cb, .slice D ib.length cd]] w
      fun e w' => e = .returned (.bool (sameM la lb wa wb ia ib)) ∧ Below w.heap.size w w' := by
  have HA := Lib.hid hA
  have HB := Lib.hid hB
  have HC := Lib.hid hC
  have HD := Lib.hid hD
  clear hA hB hC hD
  by_cases e0 : la = lb
  · have t0 : ((la : Int) != (lb : Int)) = false := by simp [e0]
    have E0 := Lib.hid e0
    clear e0
    cases e1 : eqL wa wb
    · go_enter Try.func18, Try.ntmps18
      go_wp2_with (go_at_call 37; refine (words_any wa wb A B ca cb _ ((HA.out.below ((Below.refl _ _).alloc (Nat.le_refl _) _)).below ((Below.refl _ _).alloc (Nat.le_refl _) _)) ((HB.out.below ((Below.refl _ _).alloc (Nat.le_refl _) _)).below ((Below.refl _ _).alloc (Nat.le_refl _) _)) l1 l2).mono ?_; rintro e w1 ⟨rfl, hb⟩)
      go_ret
      refine ⟨ret_bool ?_, (((Below.refl _ _).alloc (Nat.le_refl _) _).alloc (by simp) _).trans (hb.mono (by simp; omega))⟩
      simp [sameM, e1]
    · by_cases e2 : ia.length = ib.length
      · have t2 : ((ia.length : Int) != (ib.length : Int)) = false := by simp [e2]
        have E2 := Lib.hid e2
        clear e2
        go_enter Try.func18, Try.ntmps18
        go_wp2_with (go_at_call 37; refine (words_any wa wb A B ca cb _ ((HA.out.below ((Below.refl _ _).alloc (Nat.le_refl _) _)).below ((Below.refl _ _).alloc (Nat.le_refl _) _)) ((HB.out.below ((Below.refl _ _).alloc (Nat.le_refl _) _)).below ((Below.refl _ _).alloc (Nat.le_refl _) _)) l1 l2).mono ?_; rintro e w1 ⟨rfl, hb⟩; obtain ⟨hbw, hc0, hc1, hz1⟩ := box2_after hb; clear hb; have y2 : w1.cell? ⟨w.heap.size, 2, none⟩ = some (.slice C ia.length cc) := (hc0 2).trans rfl; have z2 : w1.cell? ⟨w.heap.size + 1, 2, none⟩ = some (.slice D ib.length cd) := (hc1 2).trans rfl)
        have Hbw := Lib.hid hbw
        clear hbw hc0 hc1
        go_loopw [5] (fun i wr => ∃ k : Nat, k ≤ ia.length ∧ i = .int .i64 k ∧ ia.take k = ib.take k ∧ Below w1.heap.size w1 wr) (fun i _ => ia.length - (intOf i).toNat)
        case atStart => exact ⟨0, Nat.zero_le _, rfl, rfl, Below.refl _ _⟩
        case round =>
          obtain ⟨k, hk, rfl, heq, hwr⟩ := hrel
          have Heq := Lib.hid heq
          have Hwr := Lib.hid hwr
          have y2' : wr.cell? ⟨w.heap.size, 2, none⟩ = some (.slice C ia.length cc) := (hwr.cell (p := ⟨w.heap.size, 2, none⟩) (by simp; omega)).trans y2
          have z2' : wr.cell? ⟨w.heap.size + 1, 2, none⟩ = some (.slice D ib.length cd) := (hwr.cell (p := ⟨w.heap.size + 1, 2, none⟩) (by simp; omega)).trans z2
          clear heq hwr
          by_cases hlt : k < ia.length
          · have hlt2 : k < ib.length := by rw [← E2.out]; exact hlt
            obtain ⟨b, off, rfl, hbb, p0, p1, p2, p3, p4⟩ := ((HC.out.below Hbw.out).below Hwr.out).item hlt
            obtain ⟨b2, off2, rfl, hbb2, q0, q1, q2, q3, q4⟩ := ((HD.out.below Hbw.out).below Hwr.out).item hlt2
            have i1 : (0 : Int) ≤ (k : Int) := Int.natCast_nonneg _
            have i2 : (k : Int) < (ia.length : Int) := by omega
            have i3 : (k : Int) < (ib.length : Int) := by omega
            by_cases he : eqI ia[k] ib[k] = true
            · have hn := fun W => run_neq_item ia[k] ib[k] W
              simp only [he, Bool.not_true] at hn
              have He := Lib.hid ((eqI_iff _ _).1 he)
              clear he
              go_wp2_with fail
              go_quiet (fail)
              go_wp2
              go_roundw
              case rel =>
                refine ⟨k + 1, by omega, by go_num, ?_, below_drewN Hwr.out nq⟩
                rw [List.take_succ_eq_append_getElem hlt, List.take_succ_eq_append_getElem hlt2, Heq.out, He.out]
              case measure => simp [intOf]; omega
            · have he' : eqI ia[k] ib[k] = false := by simpa using he
              have hn := fun W => run_neq_item ia[k] ib[k] W
              simp only [he', Bool.not_false] at hn
              have He := Lib.hid he
              clear he he'
              go_wp2_with fail
              go_quiet (fail)
              go_wp2
              go_ret
              refine ⟨ret_bool ?_, Hbw.out.trans (below_drewN (Hwr.out.mono Hbw.out.size) nq)⟩
              have : eqIs ia ib = false := by
                cases hx : eqIs ia ib
                · rfl
                · exfalso
                  apply He.out
                  have := (eqIs_iff _ _).1 hx
                  simp only [this]
                  exact (eqI_iff _ _).2 rfl
              simp [sameM, this]
          · go_wp2
            go_ret
            refine ⟨ret_bool ?_, Hbw.out.trans (Hwr.out.mono Hbw.out.size)⟩
            have h := Heq.out
            rw [List.take_of_length_le (by omega), List.take_of_length_le (by have := E2.out; omega)] at h
            simp [sameM, e1, E0.out, (eqIs_iff ia ib).2 h]
      · have t2 : ((ia.length : Int) != (ib.length : Int)) = true := by simp; omega
        have E2 := Lib.hid e2
        clear e2
        go_enter Try.func18, Try.ntmps18
        go_wp2_with (go_at_call 37; refine (words_any wa wb A B ca cb _ ((HA.out.below ((Below.refl _ _).alloc (Nat.le_refl _) _)).below ((Below.refl _ _).alloc (Nat.le_refl _) _)) ((HB.out.below ((Below.refl _ _).alloc (Nat.le_refl _) _)).below ((Below.refl _ _).alloc (Nat.le_refl _) _)) l1 l2).mono ?_; rintro e w1 ⟨rfl, hb⟩; obtain ⟨hbw, hc0, hc1, hz1⟩ := box2_after hb; clear hb; have y2 : w1.cell? ⟨w.heap.size, 2, none⟩ = some (.slice C ia.length cc) := (hc0 2).trans rfl; have z2 : w1.cell? ⟨w.heap.size + 1, 2, none⟩ = some (.slice D ib.length cd) := (hc1 2).trans rfl)
        go_ret
        refine ⟨ret_bool ?_, hbw⟩
        have : eqIs ia ib = false := by
          cases hx : eqIs ia ib
          · rfl
          · exact absurd (congrArg List.length ((eqIs_iff _ _).1 hx)) E2.out
        simp [sameM, this]
  · have t0 : ((la : Int) != (lb : Int)) = true := by simp; omega
    have E0 := Lib.hid e0
    clear e0
    go_enter Try.func18, Try.ntmps18
    go_wp2
    go_ret
    exact ⟨ret_bool (by simp [sameM, E0.out]), (((Below.refl _ _).alloc (Nat.le_refl _) _).alloc (by simp) _)⟩
/-- a struct in memory and a number, handed back -/
theorem ret_cell_tmp {P : Program} {fn : Func} {R : Ending → World → Prop} {a : Act} {w : World} {p u : Tmp} {ty t : TypeId} {g : Nat} {cs : Array Value} {fr : Nat × Nat} {d : TypeDesc} (h : fn.results = #[.cell p ty, .tmp u])
    (hp : a.tmps.getD p undef = .pointer (some ⟨g, 0, none⟩)) (hg : w.heap[g]? = some (.cells cs t fr)) (hu : P.underlying ty = some d) (hd : (match d with | .struct _ | .array _ _ => true | _ => false) = true)
    (hi : (P.info? ty).map (·.size) = some cs.size) (hdf : a.defers = []) (hR : R (.returned (.tuple #[.agg cs, a.tmps.getD u undef])) w) : bodyPost P fn R .ret a w := by
  refine bodyPost_ret ?_ hdf hR
  rw [results_cell_tmp h, hp]
  simp [asAddr, run_loadVar_row w g t ty cs fr d hg hu hd hi, Result.andThen]
/-- a whole struct stored over one that is known whole -/
theorem wpList_store_whole {P : Program} {ops : Array Oper} {rest : List Oper} {o : Oper} {a : Act} {w : World} {Q : Exit → Act → World → Prop} (ty : TypeId) (hgd : o.guard = none) (x y : Operand) (ho : o.op = .store ty x y)
    (g : Nat) (cells : Array Value) (hx : a.eval x = .pointer (some ⟨g, 0, none⟩)) (hy : a.eval y = .agg cells)
    (t : TypeId) (old : Array Value) (hg : w.heap[g]? = some (.cells old t (0, 0))) (hi : (P.info? ty).map (·.size) = some cells.size)
    (hold : old.size = cells.size) (h1 : cells.all (·.oneCell') = true)
    (h : ∀ w', w'.heap[g]? = some (.cells cells t (0, 0)) → w.grownBy w' (some g) → wpList P ops Q rest (a.put o.dst undef) w') : wpList P ops Q (o :: rest) a w := by
  refine wpList_store_row hgd ty x y ho g cells hx hy t old hg hi hold h1 (h _ (setRow_heap w g old cells t (0, 0) hg) ⟨rfl, rfl, rfl, by simp [World.setRow], fun k hk hne => setRow_other w g k cells (fun e => hne (by rw [e]))⟩)
theorem SlR_new2 (w : World) (o : Obj) (cs : Array Value) (t : TypeId) : SlR ((w.alloc o).alloc (.cells cs t)) (some ⟨w.heap.size + 1, 0, none⟩) cs.toList := by
  have := SlR_new (w.alloc o) cs t
  rwa [World.size_alloc] at this
theorem gb_step {a b c : World} {g : Nat} (h1 : a.grownBy b (some g)) (h2 : Below a.heap.size b c) : a.grownBy c (some g) :=
  ⟨h2.os.trans h1.os, h2.tape.trans h1.tape, h2.output.trans h1.output, Nat.le_trans h1.size h2.size, fun k hk hne => (h2.block k hk).trans (h1.block k hk hne)⟩
theorem ownsRow_gb {w w' : World} {base : Nat} {e : TypeId} {size : Nat} {v : Value} {n : Nat} {xs : List Value} {g : Nat} (h : w.ownsRow base e size v n xs) (hg : w.grownBy w' (some g)) (hlt : g < base) : w'.ownsRow base e size v n xs :=
  h.kept hg (.inr fun he => by have := (h.lt g he).1; omega)
theorem row_set {w : World} {g : Nat} {cs : List Value} {t : TypeId} (h : w.heap[g]? = some (.cells ⟨cs⟩ t (0, 0))) (i : Nat) (v : Value) : (w.setCell ⟨g, i, none⟩ v).heap[g]? = some (.cells ⟨cs.set i v⟩ t (0, 0)) := by
  simp [World.setCell, Array.getElem?_modify, h]
theorem info_item : (Try.prog.info? 24).map (fun i => (i.zero, i.size, i.bytes)) = some (some (.agg #[.int .i64 0, .int .i64 0, .int .i64 0, .int .i64 0, .bool false]), 5, 40) := by kernel_rfl
theorem keepB {W w3 : World} {N g i : Nat} {v : Value} (hb : Below N W w3) (hg : g < N) (h : W.cell? ⟨g, i, none⟩ = some v) : w3.cell? ⟨g, i, none⟩ = some v :=
  (hb.cell (p := ⟨g, i, none⟩) hg).trans h
theorem info_u64 : (Try.prog.info? 22).map (fun i => (i.zero, i.size, i.bytes)) = some (some (.int .u64 0), 1, 8) := by kernel_rfl
end Go.Proofs.Ytgacfgofpanchaa
