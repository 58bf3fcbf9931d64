/- Ranges of heads and places; bytes that are marked. No condition. And what follows from it. -/
import Derived.Test.YtflkoabgkgegjaaGreatDoorY18
import Derived.Test.YtflkoabgkgegjaaGreatDoorY9
/- Ranges of heads and places; bytes that are marked. No condition. -/
namespace Go.Proofs.YtflkoabgkgegjaaGreatDoor
open Go.RowKit Go.Maps

def inR (R : List (Nat × Nat)) (x : Nat) : Bool := R.any fun r => decide (r.1 ≤ x ∧ x < r.1 + r.2)
def offR (r s : Nat × Nat) : Prop := r.1 + r.2 ≤ s.1 ∨ s.1 + s.2 ≤ r.1
theorem inR_app (R S : List (Nat × Nat)) (x : Nat) : inR (R ++ S) x = (inR R x || inR S x) := by simp [inR]
theorem inR_one (s m x : Nat) : inR [(s, m)] x = decide (s ≤ x ∧ x < s + m) := by simp [inR]
theorem inR_empty (R : List (Nat × Nat)) (s x : Nat) : inR (R ++ [(s, 0)]) x = inR R x := by
  rw [inR_app, inR_one, decide_eq_false (by omega), Bool.or_false]
/-- a byte of a range that is off all marked ones is not marked, nor is it by the part that went ahead -/
theorem inR_new {R : List (Nat × Nat)} {s n m : Nat} (h : ∀ r ∈ R, offR r (s, n)) (hm : m < n) : inR (R ++ [(s, m)]) (s + m) = false := by
  rw [inR_app, inR_one, decide_eq_false (by omega), Bool.or_false]
  unfold inR
  rw [List.any_eq_false]
  intro r hr
  have := h r hr
  unfold offR at this
  simp only [decide_eq_true_eq]
  simp only at this
  omega
theorem inR_step (R : List (Nat × Nat)) (s m x : Nat) : inR (R ++ [(s, m + 1)]) x = if x = s + m then true else inR (R ++ [(s, m)]) x := by
  rw [inR_app, inR_app, inR_one, inR_one]
  by_cases e : x = s + m
  · rw [if_pos e, decide_eq_true (by omega), Bool.or_true]
  · rw [if_neg e]
    congr 1
    exact decide_eq_decide.2 ⟨fun h => by omega, fun h => by omega⟩
/-- the bytes of an arena, as they are marked -/
def CM (w : World) (cb : Nat) (t : TypeId) (R : List (Nat × Nat)) : Prop := ∃ cs : Array Value, w.heap[cb]? = some (.cells cs t (0, 0)) ∧ cs.size = 65536 ∧ ∀ x, x < 65536 → cs[x]? = some (.bool (inR R x))
theorem CM.cell {w : World} {cb : Nat} {t : TypeId} {R : List (Nat × Nat)} (h : CM w cb t R) {x : Nat} (hx : x < 65536) : w.cell? ⟨cb, x, none⟩ = some (.bool (inR R x)) := by
  obtain ⟨cs, h1, _, h3⟩ := h
  rw [cell_of_row _ _ _ _ _ _ h1]
  exact h3 x hx
theorem CM.frozen {w : World} {cb : Nat} {t : TypeId} {R : List (Nat × Nat)} (h : CM w cb t R) (x : Nat) : w.frozen? ⟨cb, x, none⟩ = false := by
  obtain ⟨cs, h1, _⟩ := h
  exact frozen_of_row _ _ _ _ _ h1
theorem CM.lt {w : World} {cb : Nat} {t : TypeId} {R : List (Nat × Nat)} (h : CM w cb t R) : cb < w.heap.size := by
  obtain ⟨cs, h1, _⟩ := h
  exact blt h1
theorem CM.below {w w' : World} {cb : Nat} {t : TypeId} {R : List (Nat × Nat)} (h : CM w cb t R) (hb : Below w.heap.size w w') : CM w' cb t R := by
  obtain ⟨cs, h1, h2⟩ := h
  exact ⟨cs, (hb.block cb (blt h1)).trans h1, h2⟩
theorem CM.same {w : World} {cb : Nat} {t : TypeId} {R S : List (Nat × Nat)} (h : CM w cb t R) (e : ∀ x, inR S x = inR R x) : CM w cb t S := by
  obtain ⟨cs, h1, h2, h3⟩ := h
  exact ⟨cs, h1, h2, fun x hx => by rw [e x]; exact h3 x hx⟩
theorem CM.mark {w : World} {cb : Nat} {t : TypeId} {R : List (Nat × Nat)} {s m : Nat} (h : CM w cb t (R ++ [(s, m)])) (hx : s + m < 65536) : CM (w.setCell ⟨cb, s + m, none⟩ (.bool true)) cb t (R ++ [(s, m + 1)]) := by
  obtain ⟨cs, h1, h2, h3⟩ := h
  refine ⟨cs.setIfInBounds (s + m) (.bool true), heap_setCell_same w cb (s + m) _ _ _ h1, by rw [Array.size_setIfInBounds]; exact h2, fun x hx2 => ?_⟩
  rw [inR_step, Array.getElem?_setIfInBounds]
  by_cases e : s + m = x
  · subst e
    rw [if_pos rfl, if_pos (by omega), if_pos rfl]
  · rw [if_neg e, if_neg (fun e2 => e e2.symm)]
    exact h3 x hx2
def headsR (P : List Pg) : List (Nat × Nat) := P.map fun p => (1024 * p.q, 64)
def placesR (M size : Nat) (P : List Pg) : List (Nat × Nat) := (usedC M size P).map fun x => (x.toNat, size)
theorem usedC_rise {M size : Nat} {P : List Pg} (hr : RisesQ P) (hM : M = 960 / size) (hs : 0 < size) : (usedC M size P).Pairwise (· < ·) := by
  unfold usedC
  rw [List.pairwise_flatMap]
  constructor
  · intro p _
    unfold usedB
    rw [List.pairwise_map]
    refine List.Pairwise.imp ?_ (List.pairwise_lt_range.filter _)
    intro i j h
    have : (i + 1) * size ≤ j * size := Nat.mul_le_mul_right _ h
    rw [Nat.add_mul, Nat.one_mul] at this
    omega
  · refine List.Pairwise.imp ?_ hr
    intro p q hpq x hx y hy
    obtain ⟨i, hi, _, rfl⟩ := mem_usedB.1 hx
    obtain ⟨j, hj, _, rfl⟩ := mem_usedB.1 hy
    have h1 := place_mod (q := p.q) hM hs hi
    have h2 := place_mod (q := q.q) hM hs hj
    omega
/-- a range of a page -/
def ofPage (r : Nat × Nat) (q : Nat) : Prop := 1024 * q ≤ r.1 ∧ r.1 + r.2 ≤ 1024 * q + 1024
theorem off_pages {r s : Nat × Nat} {p q : Nat} (h1 : ofPage r p) (h2 : ofPage s q) (hne : p ≠ q) : offR r s := by
  unfold ofPage at h1 h2
  unfold offR
  rcases Nat.lt_or_ge p q with h | h
  · left; omega
  · right; omega
theorem place_end {M size j : Nat} (hM : M = 960 / size) (hj : j < M) : j * size + size ≤ 960 := by
  have : (j + 1) * size ≤ M * size := Nat.mul_le_mul_right _ hj
  have := Nat.div_mul_le_self 960 size
  rw [← hM] at this
  rw [Nat.add_mul, Nat.one_mul] at *
  omega
theorem rangesR {M size : Nat} {P : List Pg} (hr : RisesQ P) (hM : M = 960 / size) (hs : 0 < size) : (headsR P ++ placesR M size P).Pairwise offR ∧ ∀ r ∈ headsR P ++ placesR M size P, ∃ p ∈ P, ofPage r p.q := by
  have hpg : ∀ r ∈ headsR P ++ placesR M size P, ∃ p ∈ P, ofPage r p.q ∧ (r = (1024 * p.q, 64) ∨ ∃ j, j < M ∧ r = (1024 * p.q + 64 + j * size, size)) := fun r hr2 => by
    rcases List.mem_append.1 hr2 with h | h
    · obtain ⟨p, hp, rfl⟩ := List.mem_map.1 h
      exact ⟨p, hp, ⟨Nat.le_refl _, by simp only; omega⟩, .inl rfl⟩
    · obtain ⟨x, hx, rfl⟩ := List.mem_map.1 h
      obtain ⟨p, hp, j, hj, _, rfl⟩ := mem_usedC.1 hx
      have := place_end hM hj
      refine ⟨p, hp, ⟨?_, ?_⟩, .inr ⟨j, hj, by rw [Int.toNat_natCast]⟩⟩
      · simp only [Int.toNat_natCast]; omega
      · simp only [Int.toNat_natCast]; omega
  refine ⟨?_, fun r h => by obtain ⟨p, hp, h1, _⟩ := hpg r h; exact ⟨p, hp, h1⟩⟩
  rw [List.pairwise_append]
  refine ⟨?_, ?_, fun r hr1 s hs1 => ?_⟩
  · unfold headsR
    rw [List.pairwise_map]
    exact List.Pairwise.imp (fun {p q} h => by left; simp only; omega) hr
  · unfold placesR
    rw [List.pairwise_map]
    refine List.Pairwise.imp_of_mem ?_ (usedC_rise hr hM hs)
    intro x y hx hy hxy
    obtain ⟨p, hp, i, hi, _, rfl⟩ := mem_usedC.1 hx
    obtain ⟨q, hq, j, hj, _, rfl⟩ := mem_usedC.1 hy
    have h1 := place_end hM hi
    have h2 := place_end hM hj
    left
    simp only [Int.toNat_natCast]
    by_cases e : p.q = q.q
    · rw [e] at hxy ⊢
      have hij : i < j := by
        rcases Nat.lt_or_ge i j with h | h
        · exact h
        · have := Nat.mul_le_mul_right size h
          omega
      have : (i + 1) * size ≤ j * size := Nat.mul_le_mul_right _ hij
      rw [Nat.add_mul, Nat.one_mul] at this
      omega
    · omega
  · obtain ⟨p, hp, rfl⟩ := List.mem_map.1 hr1
    obtain ⟨q, hq, h2, h3⟩ := hpg s (List.mem_append_right _ hs1)
    by_cases e : p.q = q.q
    · left
      obtain ⟨x, hx, rfl⟩ := List.mem_map.1 hs1
      obtain ⟨q2, hq2, j, hj, _, rfl⟩ := mem_usedC.1 hx
      have hj2 := place_end hM hj
      unfold ofPage at h2
      simp only [Int.toNat_natCast] at h2 ⊢
      omega
    · exact off_pages (p := p.q) (q := q.q) ⟨Nat.le_refl _, by simp only; omega⟩ h2 e
/-- the heads and places of both caches are off one another -/
theorem rangesTwo {top M1 M2 s1 s2 : Nat} {l : List Tl} {P1 P2 : List Pg} (ht : Two top M1 M2 l P1 P2) (h1 : RisesQ P1) (h2 : RisesQ P2) (e1 : M1 = 960 / s1) (e2 : M2 = 960 / s2) (g1 : 0 < s1) (g2 : 0 < s2) : ((headsR P1 ++ placesR M1 s1 P1) ++ (headsR P2 ++ placesR M2 s2 P2)).Pairwise offR := by
  obtain ⟨a1, a2⟩ := rangesR h1 e1 g1
  obtain ⟨b1, b2⟩ := rangesR h2 e2 g2
  rw [List.pairwise_append]
  refine ⟨a1, b1, fun r hr s hs => ?_⟩
  obtain ⟨p, hp, h3⟩ := a2 r hr
  obtain ⟨q, hq, h4⟩ := b2 s hs
  exact off_pages h3 h4 (ht.apart p hp q hq)
theorem SGx.other {W w w' : World} {c b size M top : Nat} {gm gw : Nat → Nat} {mu n : Nat} {l : List Tl} {A : Option Addr} {cap : Nat} {P : List Pg} (h : SGx W [] w c b size M top gm gw mu n l A cap P) {x : Nat} {cs : Array Value} {t : TypeId} (hc : w.heap[x]? = some (.cells cs t (0, 0))) (hx : W.heap.size ≤ x) (t1 : t ≠ 27) (t2 : t ≠ 140) (t3 : t ≠ 133) (t4 : t ≠ 128) (t5 : t ≠ 118) (hg : w.grownBy w' (some x)) : SGx W [] w' c b size M top gm gw mu n l A cap P := by
  have st : ∀ {y : Nat} {ds : Array Value} {u : TypeId}, w.heap[y]? = some (.cells ds u (0, 0)) → u ≠ t → w'.heap[y]? = w.heap[y]? := fun hd ht => hg.block _ (blt hd) (fun e2 => two_types hd hc ht (by injection e2))
  refine ⟨h.bg.other hg hx ⟨⟨cs, _, hc, t4, t5⟩, h.bg.not_gw hc t1⟩, (st h.row t3.symm).trans h.row, ownsRow_keep h.own fun g2 hg2 => ?_, fun p hp => ?_, h.gws, h.rise, h.cnew, h.pnew, h.sep, fun x hx => absurd hx List.not_mem_nil, fun x hx => absurd hx List.not_mem_nil, fun x hx => absurd hx List.not_mem_nil, fun x hx => absurd hx List.not_mem_nil, fun x hx => absurd hx List.not_mem_nil⟩
  · obtain ⟨ds, hd⟩ := h.rowne hg2
    exact st hd t2.symm
  · have mp := h.maps p hp
    exact ⟨(st mp.1 t5.symm).trans mp.1, (st mp.2.1 t1.symm).trans mp.2.1, mp.2.2⟩

def isF : Value → Bool | .bool false => true | _ => false
variable {W w w' : World} {c1 c2 b s1 M1 s2 M2 top n : Nat} {l : List Tl} {P1 P2 : List Pg}
theorem order_page {l : List Tl} {q : Nat} (h : (q, 0) ∈ blks false 0 l) (X : Int) (hX : X = ((1024 * q : Nat) : Int)) : orderC l X = 0 := orderC_eq (.inl ⟨q, 0, by omega, h, rfl⟩)
theorem ownsRow_new {w : World} {base : Nat} {e : TypeId} {size m cap n : Nat} {A : Option Addr} {xs : List Value} (h : w.ownsRow base e size (.slice A m cap) n xs) : ∀ a, A = some a → base ≤ a.block := fun a ea => by
  rcases h.2 with ⟨hv, _⟩ | ⟨g, cap2, cur, hv, hg, _⟩
  · injection hv with h1
    rw [h1] at ea
    cases ea
  · injection hv with h1
    rw [h1] at ea
    injection ea with ea
    rw [← ea]
    exact hg
theorem headsR_take {P : List Pg} {i : Nat} (h : i < P.length) : headsR (P.take (i + 1)) = headsR (P.take i) ++ [(1024 * P[i].q, 64)] := by
  unfold headsR
  rw [List.take_add_one, List.getElem?_eq_getElem h, List.map_append]
  rfl
def placesT (M size : Nat) (P : List Pg) (i : Nat) : List (Nat × Nat) := ((usedC M size P).take i).map fun x => (x.toNat, size)
theorem placesT_succ {M size : Nat} {P : List Pg} {i : Nat} (h : i < (usedC M size P).length) : placesT M size P (i + 1) = placesT M size P i ++ [((usedC M size P)[i].toNat, size)] := by
  unfold placesT
  rw [List.take_add_one, List.getElem?_eq_getElem h, List.map_append]
  rfl
theorem placesT_all {M size : Nat} {P : List Pg} : placesT M size P (usedC M size P).length = placesR M size P := by
  unfold placesT placesR
  rw [List.take_length]
/-- a range that stands behind others among ranges off one another -/
theorem off_prefix {R S : List (Nat × Nat)} {r : Nat × Nat} (h : (R ++ r :: S).Pairwise offR) : ∀ x ∈ R, offR x r := fun x hx => (List.pairwise_append.1 h).2.2 x hx r List.mem_cons_self
theorem heads_off {R : List (Nat × Nat)} {M size : Nat} {P : List Pg} (h : (R ++ (headsR P ++ placesR M size P)).Pairwise offR) {i : Nat} (hi : i < P.length) : ∀ x ∈ R ++ headsR (P.take i), offR x (1024 * P[i].q, 64) := by
  refine off_prefix (S := headsR (P.drop (i + 1)) ++ placesR M size P) ?_
  have e : headsR P = headsR (P.take i) ++ (1024 * P[i].q, 64) :: headsR (P.drop (i + 1)) := by
    have : P = P.take i ++ P[i] :: P.drop (i + 1) := by rw [List.getElem_cons_drop, List.take_append_drop]
    unfold headsR
    conv => lhs; rw [this]
    rw [List.map_append, List.map_cons]
  rw [e] at h
  simpa [List.append_assoc] using h
theorem places_off {R : List (Nat × Nat)} {M size : Nat} {P : List Pg} (h : (R ++ (headsR P ++ placesR M size P)).Pairwise offR) {i : Nat} (hi : i < (usedC M size P).length) : ∀ x ∈ R ++ headsR P ++ placesT M size P i, offR x ((usedC M size P)[i].toNat, size) := by
  refine off_prefix (S := ((usedC M size P).drop (i + 1)).map fun x => (x.toNat, size)) ?_
  have e : placesR M size P = placesT M size P i ++ ((usedC M size P)[i].toNat, size) :: (((usedC M size P).drop (i + 1)).map fun x => (x.toNat, size)) := by
    have : usedC M size P = (usedC M size P).take i ++ (usedC M size P)[i] :: (usedC M size P).drop (i + 1) := by rw [List.getElem_cons_drop, List.take_append_drop]
    unfold placesR placesT
    conv => lhs; rw [this]
    rw [List.map_append, List.map_cons]
  rw [e] at h
  simpa [List.append_assoc] using h
end Go.Proofs.YtflkoabgkgegjaaGreatDoor
/- The quota's tree with its root alone. Condition: the tree's state. -/
namespace Go.Proofs.YtflkoabgkgegjaaGreatDoor
open Go.RowKit Go.Maps

theorem below_grown {a b c : World} {g : Option Nat} (h : a.grownBy b g) (hb : Below b.heap.size b c) : a.grownBy c g := ⟨hb.os.trans h.os, hb.tape.trans h.tape, hb.output.trans h.output, Nat.le_trans h.size hb.size, fun k hk hne => (hb.block k (Nat.lt_of_lt_of_le hk h.size)).trans (h.block k hk hne)⟩
/-- a block is laid anew -/
def putO (w : World) (q : Nat) (o : Obj) : World := { w with heap := w.heap.setIfInBounds q o }
theorem putO_at (w : World) (q : Nat) (o : Obj) (h : q < w.heap.size) : (putO w q o).heap[q]? = some o := by simp [putO, h]
theorem putO_other (w : World) (q x : Nat) (o : Obj) (h : x ≠ q) : (putO w q o).heap[x]? = w.heap[x]? := by simp [putO, Array.getElem?_setIfInBounds_ne (Ne.symm h)]
theorem putO_size (w : World) (q : Nat) (o : Obj) : (putO w q o).heap.size = w.heap.size := by simp [putO]
theorem putO_below {B : Nat} {a w : World} (h : Below B a w) (q : Nat) (o : Obj) (hq : B ≤ q) : Below B a (putO w q o) := ⟨h.os, h.tape, h.output, by rw [putO_size]; exact h.size, fun k hk => (putO_other w q k o (by omega)).trans (h.block k hk)⟩
/-- a tree of one factory: its limit, what was charged -/
structure QuAt (w : World) (tb qm fb : Nat) (L C : Int) : Prop where
  tree : w.heap[tb]? = some (.cells #[.map (some qm), .int .i64 1] 122 (0, 0))
  map : w.heap[qm]? = some (.map #[⟨.int .i64 0, .pointer (some ⟨fb, 0, none⟩), 0⟩] 1)
  fac : w.heap[fb]? = some (.cells #[.int .i64 L, .int .i64 C, .int .i64 0, .int .i64 (-1), .int .i64 0] 111 (0, 0))
theorem checkKey_int (b : Bool) (x : Int) (w : World) : (Instr.checkKey b 10000 3 (.int .i64 x)).run Tryz.prog w = .ok () w := by
  rw [show (10000 : Nat) = 9999 + 1 from rfl]
  unfold Instr.checkKey
  simp [go_sem, Tryz.underlying3]
theorem run_look0 {w : World} {qm fb : Nat} (h : w.heap[qm]? = some (.map #[⟨.int .i64 0, .pointer (some ⟨fb, 0, none⟩), 0⟩] 1)) :
    (Instr.lookup 120 (.map (some qm)) (.int .i64 0) false).run Tryz.prog w = .ok (.pointer (some ⟨fb, 0, none⟩)) w := by
  have h1 := Go.MapKept.run_getObj_map (P := Tryz.prog) h
  simp [Instr.lookup, go_sem, Tryz.underlying120, Tryz.underlying3, h1, checkKey_int, Instr.findKey, Instr.findNow, Instr.sameNow]
theorem run_put0 (w : World) (qm : Nat) (v : Value) (h : w.heap[qm]? = some (.map #[] 0)) :
    (Instr.mapUpdate 120 (.map (some qm)) (.int .i64 0) v).run Tryz.prog w = .ok () { w with heap := w.heap.setIfInBounds qm (.map #[⟨.int .i64 0, v, 0⟩] 1) } := by
  have h1 := Go.MapKept.run_getObj_map (P := Tryz.prog) h
  simp [Instr.mapUpdate, go_sem, Tryz.underlying120, Tryz.underlying3, h1, checkKey_int, Instr.findKey, Instr.findNow, Instr.sameNow, setObj, Sem.run, h]
section
variable {tb qm fb : Nat} {L C : Int} {w w' : World}
theorem QuAt.below (h : QuAt w tb qm fb L C) (hb : Below w.heap.size w w') : QuAt w' tb qm fb L C := by
  have hm : qm < w.heap.size := by
    have := h.map
    rcases Nat.lt_or_ge qm w.heap.size with q | q
    · exact q
    · rw [Array.getElem?_eq_none q] at this; cases this
  exact ⟨(hb.block _ (blt h.tree)).trans h.tree, (hb.block _ hm).trans h.map, (hb.block _ (blt h.fac)).trans h.fac⟩
set_option maxRecDepth 100000 in
theorem qat (h : QuAt w tb qm fb L C) : Calls Tryz.prog 57 #[.pointer (some ⟨tb, 0, none⟩), .int .i64 0] w fun e w' => e = .returned (.tuple #[.pointer (some ⟨fb, 0, none⟩), .int .i64 0]) ∧ w' = w := by
  have t0 : w.cell? ⟨tb, 0, none⟩ = some (.map (some qm)) := (cell_of_row _ _ 0 _ _ _ h.tree).trans rfl
  have r0 := run_look0 h.map
  clear h
  go_enter Tryz.func57, Tryz.ntmps57
  go_wp2
  go_ret2
  exact ⟨rfl, rfl⟩
theorem QuAt.f0 (h : QuAt w tb qm fb L C) : w.cell? ⟨fb, 0, none⟩ = some (.int .i64 L) := (cell_of_row _ _ 0 _ _ _ h.fac).trans rfl
theorem QuAt.f1 (h : QuAt w tb qm fb L C) : w.cell? ⟨fb, 1, none⟩ = some (.int .i64 C) := (cell_of_row _ _ 1 _ _ _ h.fac).trans rfl
theorem QuAt.f2 (h : QuAt w tb qm fb L C) : w.cell? ⟨fb, 2, none⟩ = some (.int .i64 0) := (cell_of_row _ _ 2 _ _ _ h.fac).trans rfl
theorem QuAt.froz (h : QuAt w tb qm fb L C) (i : Nat) : w.frozen? ⟨fb, i, none⟩ = false := frozen_of_row _ _ _ _ _ h.fac
/-- what was charged turns -/
theorem QuAt.set (h : QuAt w tb qm fb L C) (C' : Int) : QuAt (w.setCell ⟨fb, 1, none⟩ (.int .i64 C')) tb qm fb L C' := by
  have hm : qm ≠ fb := fun e => by
    have h1 := h.map
    have h2 := h.fac
    rw [e, h2] at h1
    cases h1
  refine ⟨(Below.heap_setCell w _ _ tb (fun e => ?_)).trans h.tree, (Below.heap_setCell w _ _ qm hm).trans h.map, heap_setCell_same w fb 1 _ _ _ h.fac⟩
  have h1 := h.tree
  have h2 := h.fac
  simp only at e
  rw [e, h2] at h1
  injection h1 with h1
  injection h1 with h1 h3
  revert h3
  decide
set_option maxRecDepth 100000 in
theorem qsum (a b : Nat) (B : Nat) (w : World) (ha : a ≤ 1073741824) (hb : b ≤ 1073741824) (cap : Nat) (x y z : Int) (hx : x = (a : Int)) (hy : y = (b : Int)) (hz : z = ((a + b : Nat) : Int)) (h0 : w.cell? ⟨B, 0, none⟩ = some (.int .i64 x)) (h1 : w.cell? ⟨B, 1, none⟩ = some (.int .i64 y)) :
    Calls Tryz.prog 83 #[.slice (some ⟨B, 0, none⟩) 2 cap] w fun e w' => e = .returned (.int .i64 z) ∧ w' = w := by
  have z1 : IntKind.i64.wrap (0 + x) = x := by rw [IntKind.wrap_i64]; omega
  have z2 : IntKind.i64.wrap (x + y) = z := by rw [IntKind.wrap_i64]; omega
  have z1' : IntKind.i64.wrap x = x := by rw [IntKind.wrap_i64]; omega
  clear ha hb hx hy hz
  go_enter Tryz.func83, Tryz.ntmps83
  go_wp2
  refine wp_loop_rounds 3 ?_
  rw [rounds_succ]
  go_wp2
  rw [rounds_succ]
  go_wp2
  rw [rounds_succ]
  go_wp2
  go_ret
  exact ⟨rfl, rfl⟩
end
end Go.Proofs.YtflkoabgkgegjaaGreatDoor
/- Charge, Refund, Use of the quota's root; a new tree. Condition: the tree's state. -/
namespace Go.Proofs.YtflkoabgkgegjaaGreatDoor
open Go.RowKit Go.Maps
theorem cellNew (w : World) (cs : Array Value) (t : TypeId) (i : Nat) (v : Value) (h : cs[i]? = some v) : (w.alloc (.cells cs t)).drew.cell? ⟨w.heap.size, i, none⟩ = some v := by
  show (w.alloc (.cells cs t)).cell? _ = _
  rw [World.cell?_alloc_new]
  exact h
section
variable {tb qm fb : Nat} {w w' : World}
set_option maxRecDepth 100000 in
theorem quse {l c : Nat} (h : QuAt w tb qm fb (l : Int) (c : Int)) (hc : c ≤ 1073741824) (C : Int) (hC : (c : Int) = C) : Calls Tryz.prog 58 #[.pointer (some ⟨fb, 0, none⟩)] w fun e w' => e = .returned (.int .i64 C) ∧ Below w.heap.size w w' := by
  have f1 : w.cell? ⟨fb, 1, none⟩ = some (.int .i64 C) := by rw [← hC]; exact h.f1
  have f2 := h.f2
  have HC := Lib.hid hC
  have HL := Lib.hid hc
  clear h hC hc
  go_enter Tryz.func58, Tryz.ntmps58
  go_wp2_with fail
  go_region_law (first | (go_simp; go_at_call 83; (with_reducible refine (qsum c 0 _ _ HL.out (by omega) 2 C 0 C HC.out.symm rfl (by rw [Nat.add_zero]; exact HC.out.symm) (cellNew _ _ _ 0 _ rfl) (cellNew _ _ _ 1 _ rfl)).mono ?_); rintro e w8 ⟨rfl, rfl⟩))
  all_goals
    go_wp2
    go_ret
    exact ⟨rfl, ((Below.refl _ _).alloc (Nat.le_refl _) _).drew⟩
set_option maxRecDepth 100000 in
theorem qfits {l c : Nat} (h : QuAt w tb qm fb (l : Int) (c : Int)) (hc : c ≤ l) (hl : l ≤ 1073741824) (x : Int) (B : Bool) (hB : decide (x ≤ (l : Int) - (c : Int)) = B) : Calls Tryz.prog 68 #[.pointer (some ⟨fb, 0, none⟩), .int .i64 x] w fun e w' => e = .returned (.bool B) ∧ Below w.heap.size w w' := by
  obtain ⟨C, hC⟩ : ∃ C : Int, (c : Int) = C := ⟨_, rfl⟩
  obtain ⟨L, hL⟩ : ∃ L : Int, (l : Int) = L := ⟨_, rfl⟩
  have f0 : w.cell? ⟨fb, 0, none⟩ = some (.int .i64 L) := by rw [← hL]; exact h.f0
  have HH := Lib.hid h
  have HC := Lib.hid hC
  have HL := Lib.hid hL
  have hc2 : Hid (c ≤ 1073741824) := Lib.hid (by omega)
  have z1 : IntKind.i64.wrap (L - C) = L - C := by rw [IntKind.wrap_i64]; omega
  have t1 : decide (x ≤ L - C) = B := by rw [← hC, ← hL]; exact hB
  clear h hC hL hc hl hB
  go_enter Tryz.func68, Tryz.ntmps68
  go_wp2_with fail
  have hd := HH.out.below (Below.refl _ _).drew
  go_region_held3 (fun w' => w'.cell? ⟨fb, 0, none⟩ = some (.int .i64 L)) (first | (rw [← HL.out]; exact QuAt.f0 (by assumption))) (first | (go_at_call 58; (with_reducible refine (quse (by assumption) hc2.out C HC.out).mono ?_); rintro e w8 ⟨rfl, h8⟩; have h9 := QuAt.below (by assumption) h8))
  all_goals
    have HB := Lib.hid ((Below.refl w.heap.size w).drew.trans (h8.mono (Nat.le_refl _)))
    clear hd h8 h9
    go_wp2
    go_ret
    exact ⟨rfl, HB.out⟩
set_option maxRecDepth 100000 in
theorem qcharge_no {l c : Nat} (h : QuAt w tb qm fb (l : Int) (c : Int)) (hc : c ≤ l) (hl : l ≤ 1073741824) (n : Nat) (hn : l < c + n) (N : Int) (hN : N = (n : Int)) : Calls Tryz.prog 48 #[.pointer (some ⟨tb, 0, none⟩), .int .i64 0, .int .i64 N] w fun e w' => e = .returned (.int .i64 5) ∧ Below w.heap.size w w' := by
  have HH := Lib.hid h
  have HC : Hid (c ≤ l ∧ l ≤ 1073741824) := Lib.hid ⟨hc, hl⟩
  have HB : Hid (decide (N ≤ (l : Int) - (c : Int)) = false) := Lib.hid (decide_eq_false (by omega))
  have t0 : decide (N < 0) = false := decide_eq_false (by omega)
  clear h hc hl hn hN
  go_enter Tryz.func48, Tryz.ntmps48
  go_wp2_with fail
  refine (qat HH.out).mono ?_
  rintro e w' ⟨rfl, rfl⟩
  go_wp2_with fail
  refine (qfits HH.out HC.out.1 HC.out.2 N false HB.out).mono ?_
  rintro e w2 ⟨rfl, hb⟩
  have HW := Lib.hid hb
  clear hb
  go_wp2
  go_ret
  exact ⟨rfl, HW.out⟩
set_option maxRecDepth 100000 in
theorem qcharge_yes {l c : Nat} (h : QuAt w tb qm fb (l : Int) (c : Int)) (hl : l ≤ 1073741824) (n : Nat) (hn : c + n ≤ l) (N : Int) (hN : N = (n : Int)) : Calls Tryz.prog 48 #[.pointer (some ⟨tb, 0, none⟩), .int .i64 0, .int .i64 N] w fun e w' => e = .returned (.int .i64 0) ∧ QuAt w' tb qm fb (l : Int) ((c + n : Nat) : Int) ∧ w.grownBy w' (some fb) := by
  obtain ⟨C, hC⟩ : ∃ C : Int, (c : Int) = C := ⟨_, rfl⟩
  obtain ⟨D, hD⟩ : ∃ D : Int, ((c + n : Nat) : Int) = D := ⟨_, rfl⟩
  have HH := Lib.hid h
  have HC : Hid (c ≤ l ∧ l ≤ 1073741824) := Lib.hid ⟨by omega, hl⟩
  have HB : Hid (decide (N ≤ (l : Int) - (c : Int)) = true) := Lib.hid (decide_eq_true (by omega))
  have t0 : decide (N < 0) = false := decide_eq_false (by omega)
  have z1 : IntKind.i64.wrap (C + N) = D := by rw [IntKind.wrap_i64]; omega
  have HCC := Lib.hid hC
  rw [hD]
  clear h hl hn hN hC hD
  go_enter Tryz.func48, Tryz.ntmps48
  go_wp2_with fail
  refine (qat HH.out).mono ?_
  rintro e w' ⟨rfl, rfl⟩
  go_wp2_with fail
  refine (qfits HH.out HC.out.1 HC.out.2 N true HB.out).mono ?_
  rintro e w2 ⟨rfl, hb⟩
  have HW := Lib.hid hb
  have H2 := Lib.hid (HH.out.below hb)
  have f1 : w2.cell? ⟨fb, 1, none⟩ = some (.int .i64 C) := by rw [← HCC.out]; exact H2.out.f1
  have fz := H2.out.froz 1
  clear hb
  go_wp2
  go_ret
  exact ⟨rfl, H2.out.set D, gb_set (below_grown (World.grownBy.refl _ _) HW.out) _ _⟩
set_option maxRecDepth 100000 in
theorem qrefund {l c : Nat} (h : QuAt w tb qm fb (l : Int) (c : Int)) (hc : c ≤ 1073741824) (n : Nat) (hn : n ≤ c) (N : Int) (hN : N = (n : Int)) : Calls Tryz.prog 50 #[.pointer (some ⟨tb, 0, none⟩), .int .i64 0, .int .i64 N] w fun e w' => e = .returned (.int .i64 0) ∧ QuAt w' tb qm fb (l : Int) ((c - n : Nat) : Int) ∧ w.grownBy w' (some fb) := by
  obtain ⟨C, hC⟩ : ∃ C : Int, (c : Int) = C := ⟨_, rfl⟩
  obtain ⟨D, hD⟩ : ∃ D : Int, ((c - n : Nat) : Int) = D := ⟨_, rfl⟩
  have HH := Lib.hid h
  have t0 : decide (N < 0) = false := decide_eq_false (by omega)
  have t1 : decide (C < N) = false := decide_eq_false (by omega)
  have z1 : IntKind.i64.wrap (C - N) = D := by rw [IntKind.wrap_i64]; omega
  have f1 : w.cell? ⟨fb, 1, none⟩ = some (.int .i64 C) := by rw [← hC]; exact h.f1
  have fz := h.froz 1
  rw [hD]
  clear h hc hn hN hC hD
  go_enter Tryz.func50, Tryz.ntmps50
  go_wp2_with fail
  refine (qat HH.out).mono ?_
  rintro e w' ⟨rfl, hw⟩
  have hw2 := hw.symm
  clear hw
  subst hw2
  go_wp2
  go_ret
  exact ⟨rfl, HH.out.set D, gb_set (World.grownBy.refl _ _) _ _⟩
set_option maxRecDepth 100000 in
theorem quse_any {l c : Nat} (h : QuAt w tb qm fb (l : Int) (c : Int)) (hc : c ≤ 1073741824) (C : Int) (hC : (c : Int) = C) : Calls Tryz.prog 21 #[.pointer (some ⟨tb, 0, none⟩), .int .i64 0] w fun e w' => e = .returned (.int .i64 C) ∧ Below w.heap.size w w' := by
  have HH := Lib.hid h
  have HC := Lib.hid hc
  have HCC := Lib.hid hC
  clear h hc hC
  go_enter Tryz.func21, Tryz.ntmps21
  go_wp2_with fail
  refine (qat HH.out).mono ?_
  rintro e w' ⟨rfl, hw⟩
  have hw2 := hw.symm
  clear hw
  subst hw2
  go_wp2_with fail
  refine (quse HH.out HC.out C HCC.out).mono ?_
  rintro e w2 ⟨rfl, hb⟩
  have HW := Lib.hid hb
  clear hb
  go_wp2
  go_ret
  exact ⟨rfl, HW.out⟩
end
/-- the world that a new tree leaves -/
def qnewW (w : World) (L : Int) : World := (putO ((w.alloc (.map #[] 0)).alloc (.cells #[.int .i64 L, .int .i64 0, .int .i64 0, .int .i64 (-1), .int .i64 0] 111)) w.heap.size (.map #[⟨.int .i64 0, .pointer (some ⟨w.heap.size + 1, 0, none⟩), 0⟩] 1)).alloc (.cells #[.map (some w.heap.size), .int .i64 1] 122)
theorem qnewW_at (w : World) (L : Int) : QuAt (qnewW w L) (w.heap.size + 1 + 1) w.heap.size (w.heap.size + 1) L 0 ∧ Below w.heap.size w (qnewW w L) := by
  have e0 := heap_alloc_new w (.map #[] 0)
  have e1 := heap_alloc_new (w.alloc (.map #[] 0)) (.cells #[.int .i64 L, .int .i64 0, .int .i64 0, .int .i64 (-1), .int .i64 0] 111)
  have b1 : Below w.heap.size w (w.alloc (.map #[] 0)) := (Below.refl _ w).alloc (Nat.le_refl _) _
  have b2 : Below w.heap.size w ((w.alloc (.map #[] 0)).alloc (.cells #[.int .i64 L, .int .i64 0, .int .i64 0, .int .i64 (-1), .int .i64 0] 111)) := b1.alloc b1.size _
  have s2 : ((w.alloc (.map #[] 0)).alloc (.cells #[.int .i64 L, .int .i64 0, .int .i64 0, .int .i64 (-1), .int .i64 0] 111)).heap.size = w.heap.size + 1 + 1 := by rw [World.size_alloc, World.size_alloc]
  rw [World.size_alloc] at e1
  unfold qnewW
  generalize (w.alloc (.map #[] 0)).alloc (.cells #[.int .i64 L, .int .i64 0, .int .i64 0, .int .i64 (-1), .int .i64 0] 111) = w2 at e1 b2 s2 ⊢
  have b3 := putO_below b2 w.heap.size (.map #[⟨.int .i64 0, .pointer (some ⟨w.heap.size + 1, 0, none⟩), 0⟩] 1) (Nat.le_refl _)
  have b4 := (Below.refl _ (putO w2 w.heap.size (.map #[⟨.int .i64 0, .pointer (some ⟨w.heap.size + 1, 0, none⟩), 0⟩] 1))).alloc (Nat.le_refl _) (.cells #[.map (some w.heap.size), .int .i64 1] 122)
  have e4 := heap_alloc_new (putO w2 w.heap.size (.map #[⟨.int .i64 0, .pointer (some ⟨w.heap.size + 1, 0, none⟩), 0⟩] 1)) (.cells #[.map (some w.heap.size), .int .i64 1] 122)
  rw [putO_size, s2] at e4
  refine ⟨⟨e4, (b4.block _ (by rw [putO_size]; omega)).trans (putO_at _ _ _ (by omega)), (b4.block _ (by rw [putO_size]; omega)).trans ((putO_other _ _ _ _ (by omega)).trans e1)⟩, b3.trans (b4.mono b3.size)⟩
set_option maxRecDepth 100000 in
theorem qnew (l : Nat) (hl : l ≤ 1073741824) (L : Int) (hL : (l : Int) = L) (w : World) : Calls Tryz.prog 40 #[.int .i64 L] w fun e w' => ∃ tb qm fb, e = .returned (.pointer (some ⟨tb, 0, none⟩)) ∧ w.heap.size ≤ qm ∧ w.heap.size ≤ fb ∧ w.heap.size ≤ tb ∧ QuAt w' tb qm fb (l : Int) 0 ∧ Below w.heap.size w w' := by
  have t0 : decide (L < 0) = false := decide_eq_false (by omega)
  have t1 : decide (1073741824 < L) = false := decide_eq_false (by omega)
  have hmm := @run_makeMap Tryz.prog
  have hput := run_put0 ((w.alloc (.map #[] 0)).alloc (.cells #[.int .i64 L, .int .i64 0, .int .i64 0, .int .i64 (-1), .int .i64 0] 111)) w.heap.size (.pointer (some ⟨w.heap.size + 1, 0, none⟩)) (by
    exact (((Below.refl _ (w.alloc (.map #[] 0))).alloc (Nat.le_refl _) _).block w.heap.size (by rw [World.size_alloc]; omega)).trans (heap_alloc_new w _))
  have HL := Lib.hid hL
  clear hl hL
  go_enter Tryz.func40, Tryz.ntmps40
  go_wp2
  go_ret
  have hw := qnewW_at w L
  refine ⟨_, w.heap.size, w.heap.size + 1, rfl, Nat.le_refl _, Nat.le_succ _, by omega, ?_, hw.2⟩
  rw [HL.out]
  exact hw.1
end Go.Proofs.YtflkoabgkgegjaaGreatDoor
