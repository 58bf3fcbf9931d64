/- Two caches over one allocator. Condition: their state. And what follows from it. -/
import Derived.Test.YtflkoabgkgegjaaDoorY25
/- Two caches over one allocator. Condition: their state. -/
namespace Go.Proofs.YtflkoabgkgegjaaDoor
open Go.RowKit Go.Maps
variable {W w w' : World} {c1 c2 b s1 M1 s2 M2 top n : Nat} {l : List Tl} {P1 P2 : List Pg}

def SG2 (W w : World) (c1 c2 b s1 M1 s2 M2 top n : Nat) (l : List Tl) (P1 P2 : List Pg) : Prop := ∃ gm gw mu A1 cap1 A2 cap2, SGx W [] w c1 b s1 M1 top gm gw mu n l A1 cap1 P1 ∧ SGx W [] w c2 b s2 M2 top gm gw mu n l A2 cap2 P2 ∧ c1 ≠ c2 ∧ (∀ p ∈ P1, ∀ q ∈ P2, p.gw ≠ q.gw) ∧ ∀ g, some g = (Value.slice A1 P1.length cap1).ownBlock → some g ≠ (Value.slice A2 P2.length cap2).ownBlock
theorem SG2.swap (h : SG2 W w c1 c2 b s1 M1 s2 M2 top n l P1 P2) : SG2 W w c2 c1 b s2 M2 s1 M1 top n l P2 P1 := by
  obtain ⟨gm, gw, mu, A1, cap1, A2, cap2, h1, h2, h3, h4, h5⟩ := h
  exact ⟨gm, gw, mu, A2, cap2, A1, cap1, h2, h1, h3.symm, fun p hp q hq e => h4 q hq p hp e.symm, fun g e1 e2 => h5 g e2 e1⟩
/-- the one cache is used, the other's blocks are held -/
theorem SG2.one (h : SG2 W w c1 c2 b s1 M1 s2 M2 top n l P1 P2) : ∃ K, SG W K w c1 b s1 M1 top n l P1 ∧ ∀ w' n' l' P', SG W K w' c1 b s1 M1 top n' l' P' → SG2 W w' c1 c2 b s1 M1 s2 M2 top n' l' P' P2 := by
  obtain ⟨gm, gw, mu, A1, cap1, A2, cap2, h1, h2, h3, h4, h5⟩ := h
  obtain ⟨AK, ha1, ha2⟩ : ∃ AK : List (Nat × Obj), (∀ x ∈ AK, ∃ cs, x.2 = .cells cs 104 (0, 0) ∧ w.heap[x.1]? = some x.2 ∧ some x.1 = (Value.slice A2 P2.length cap2).ownBlock) ∧ ∀ g, some g = (Value.slice A2 P2.length cap2).ownBlock → ∃ cs, w.heap[g]? = some (.cells cs 104 (0, 0)) ∧ (g, .cells cs 104 (0, 0)) ∈ AK := by
    cases e : (Value.slice A2 P2.length cap2).ownBlock with
    | none => exact ⟨[], fun x hx => absurd hx List.not_mem_nil, fun g hg => by cases hg⟩
    | some g =>
      obtain ⟨cs, hc⟩ := h2.rowne e.symm
      exact ⟨[(g, .cells cs 104 (0, 0))], fun x hx => by rw [List.mem_singleton.1 hx]; exact ⟨cs, rfl, hc, rfl⟩, fun g2 hg2 => by injection hg2 with hg2; subst hg2; exact ⟨cs, hc, List.mem_singleton.2 rfl⟩⟩
  obtain ⟨K, hK⟩ : ∃ K, K = (c2, Obj.cells (cRow b (s2 : Int) A2 P2.length cap2) 102 (0, 0)) :: (AK ++ P2.flatMap fun p => [(p.gm, Obj.cells #[.int .i64 (M2 : Int), .slice (some ⟨p.gw, 0, none⟩) p.ws.length p.ws.length] 114 (0, 0)), (p.gw, Obj.cells (u64s p.ws).toArray 31 (0, 0))]) := ⟨_, rfl⟩
  have inK : ∀ x ∈ K, x = (c2, Obj.cells (cRow b (s2 : Int) A2 P2.length cap2) 102 (0, 0)) ∨ x ∈ AK ∨ ∃ p ∈ P2, x = (p.gm, Obj.cells #[.int .i64 (M2 : Int), .slice (some ⟨p.gw, 0, none⟩) p.ws.length p.ws.length] 114 (0, 0)) ∨ x = (p.gw, Obj.cells (u64s p.ws).toArray 31 (0, 0)) := fun x hx => by
    rw [hK] at hx
    rcases List.mem_cons.1 hx with hx | hx
    · exact .inl hx
    · rcases List.mem_append.1 hx with hx | hx
      · exact .inr (.inl hx)
      · obtain ⟨p, hp, hx⟩ := List.mem_flatMap.1 hx
        simp only [List.mem_cons, List.not_mem_nil, or_false] at hx
        exact .inr (.inr ⟨p, hp, hx⟩)
  have kRow : (c2, Obj.cells (cRow b (s2 : Int) A2 P2.length cap2) 102 (0, 0)) ∈ K := by rw [hK]; exact List.mem_cons_self
  have kA : ∀ x ∈ AK, x ∈ K := fun x hx => by rw [hK]; exact List.mem_cons_of_mem _ (List.mem_append_left _ hx)
  have kgm : ∀ p ∈ P2, (p.gm, Obj.cells #[.int .i64 (M2 : Int), .slice (some ⟨p.gw, 0, none⟩) p.ws.length p.ws.length] 114 (0, 0)) ∈ K := fun p hp => by
    rw [hK]
    exact List.mem_cons_of_mem _ (List.mem_append_right _ (List.mem_flatMap.2 ⟨p, hp, by simp⟩))
  have kgw : ∀ p ∈ P2, (p.gw, Obj.cells (u64s p.ws).toArray 31 (0, 0)) ∈ K := fun p hp => by
    rw [hK]
    exact List.mem_cons_of_mem _ (List.mem_append_right _ (List.mem_flatMap.2 ⟨p, hp, by simp⟩))
  clear hK
  have hkept : ∀ x ∈ K, w.heap[x.1]? = some x.2 := fun x hx => by
    rcases inK x hx with rfl | hx | ⟨p, hp, rfl | rfl⟩
    · exact h2.row
    · obtain ⟨cs, _, hc, _⟩ := ha1 x hx
      exact hc
    · exact (h2.maps p hp).1
    · exact (h2.maps p hp).2.1
  refine ⟨K, ⟨gm, gw, mu, A1, cap1, h1.bg, h1.row, h1.own, h1.maps, h1.gws, h1.rise, h1.cnew, h1.pnew, h1.sep, hkept, fun x hx => ?_, fun x hx k hk => ?_, fun x hx p hp => ?_, fun x hx e => ?_⟩, fun w' n' l' P' h' => ?_⟩
  · rcases inK x hx with rfl | hx | ⟨p, hp, rfl | rfl⟩
    · exact ⟨h3.symm, h1.bg.not_mu h2.row⟩
    · obtain ⟨cs, e, hc, _⟩ := ha1 x hx
      rw [e] at hc
      exact ⟨two_types hc h1.row (by decide), h1.bg.not_mu hc⟩
    · exact ⟨two_types (h2.maps p hp).1 h1.row (by decide), h1.bg.not_mu (h2.maps p hp).1⟩
    · exact ⟨two_types (h2.maps p hp).2.1 h1.row (by decide), h1.bg.not_mu (h2.maps p hp).2.1⟩
  · rcases inK x hx with rfl | hx | ⟨p, hp, rfl | rfl⟩
    · exact h1.bg.not_gw h2.row (by decide) k hk
    · obtain ⟨cs, e, hc, _⟩ := ha1 x hx
      rw [e] at hc
      exact h1.bg.not_gw hc (by decide) k hk
    · exact h1.bg.not_gw (h2.maps p hp).1 (by decide) k hk
    · exact h2.sep p hp k hk
  · rcases inK x hx with rfl | hx | ⟨q, hq, rfl | rfl⟩
    · exact two_types h2.row (h1.maps p hp).2.1 (by decide)
    · obtain ⟨cs, e, hc, _⟩ := ha1 x hx
      rw [e] at hc
      exact two_types hc (h1.maps p hp).2.1 (by decide)
    · exact two_types (h2.maps q hq).1 (h1.maps p hp).2.1 (by decide)
    · exact (h4 p hp q hq).symm
  · obtain ⟨ds, hd⟩ := h1.rowne e
    rcases inK x hx with rfl | hx | ⟨q, hq, rfl | rfl⟩
    · exact two_types h2.row hd (by decide) rfl
    · obtain ⟨cs, _, _, e3⟩ := ha1 x hx
      exact h5 x.1 e e3
    · exact two_types (h2.maps q hq).1 hd (by decide) rfl
    · exact two_types (h2.maps q hq).2.1 hd (by decide) rfl
  · obtain ⟨gm', gw', mu', A1', cap1', g⟩ := h'
    refine ⟨gm', gw', mu', A1', cap1', A2, cap2, g.sub (fun x hx => absurd hx List.not_mem_nil), ⟨g.bg, g.kept _ kRow, ownsRow_keep h2.own fun g2 hg2 => ?_, fun p hp => ⟨g.kept _ (kgm p hp), g.kept _ (kgw p hp), (h2.maps p hp).2.2⟩, h2.gws, h2.rise, h2.cnew, h2.pnew, fun p hp k hk => g.kgw _ (kgw p hp) k hk, fun x hx => absurd hx List.not_mem_nil, fun x hx => absurd hx List.not_mem_nil, fun x hx => absurd hx List.not_mem_nil, fun x hx => absurd hx List.not_mem_nil, fun x hx => absurd hx List.not_mem_nil⟩, (g.knc _ kRow).1.symm, fun p hp q hq e => g.kpg _ (kgw q hq) p hp e.symm, fun g2 e1 e2 => ?_⟩
    · obtain ⟨cs, hc, hm⟩ := ha2 g2 hg2
      exact (g.kept _ (kA _ hm)).trans hc.symm
    · obtain ⟨cs, hc, hm⟩ := ha2 g2 e2
      exact g.kA _ (kA _ hm) e1
theorem SG2.below (h : SG2 W w c1 c2 b s1 M1 s2 M2 top n l P1 P2) (hb : Below w.heap.size w w') : SG2 W w' c1 c2 b s1 M1 s2 M2 top n l P1 P2 := by
  obtain ⟨gm, gw, mu, A1, cap1, A2, cap2, h1, h2, h3, h4, h5⟩ := h
  exact ⟨gm, gw, mu, A1, cap1, A2, cap2, h1.below hb, h2.below hb, h3, h4, h5⟩
theorem SG2.way (h : SG2 W w c1 c2 b s1 M1 s2 M2 top n l P1 P2) : Below W.heap.size W w := by
  obtain ⟨gm, gw, mu, A1, cap1, A2, cap2, h1, _⟩ := h
  exact h1.bg.way
/-- a second cache is made -/
theorem SG2.made (h : SG W [] w c1 b s1 M1 top n l P1) (h1 : 16 ≤ s2) (h2 : s2 ≤ 512) (h3 : (s2 : Int).tmod 16 = 0) (M : Nat) (S : Int) (hS : S = (s2 : Int)) :
    Calls Tryd.prog 24 #[.pointer (some ⟨b, 0, none⟩), .int .i64 S] w fun e w' => ∃ c, e = .returned (.pointer (some ⟨c, 0, none⟩)) ∧ SG2 W w' c1 c b s1 M1 s2 M top n l P1 [] := by
  subst hS
  refine (snew_yes b s2 (by omega) (by omega) h3 w).mono ?_
  rintro e w' ⟨rfl, rfl⟩
  obtain ⟨gm, gw, mu, A, cap, h⟩ := h
  have hlt := h.clt
  exact ⟨_, rfl, gm, gw, mu, A, cap, none, 0, h.alloc _, ⟨(h.bg.below ((Below.refl _ w).alloc (Nat.le_refl _) _)).rebase, heap_alloc_new w _, World.ownsRow_nil _ _ _ _, fun p hp => absurd hp List.not_mem_nil, List.Pairwise.nil, List.Pairwise.nil, h.bg.way.size, fun p hp => absurd hp List.not_mem_nil, fun p hp => absurd hp List.not_mem_nil, fun p hp => absurd hp List.not_mem_nil, fun p hp => absurd hp List.not_mem_nil, fun p hp => absurd hp List.not_mem_nil, fun p hp => absurd hp List.not_mem_nil, fun p hp => absurd hp List.not_mem_nil⟩, by omega, fun p _ q hq => absurd hq List.not_mem_nil, fun g _ e => by cases e⟩
/-- the laws' invariant of two caches -/
structure Two (top M1 M2 : Nat) (l : List Tl) (P1 P2 : List Pg) : Prop where
  one : Lay top M1 l P1
  two : Lay top M2 l P2
  apart : ∀ p ∈ P1, ∀ q ∈ P2, p.q ≠ q.q
theorem Two.swap {l : List Tl} (h : Two top M1 M2 l P1 P2) : Two top M2 M1 l P2 P1 := ⟨h.two, h.one, fun p hp q hq e => h.apart q hq p hp e.symm⟩
theorem Two.take {l l' : List Tl} {P' : List Pg} {size : Nat} {at_ er : Int} (h : Two top M1 M2 l P1 P2) (ht : TakeS top M1 size l P1 at_ er l' P') (hwf : ∀ p ∈ P1, WF M1 p.ws) (hM : 0 < M1) : Two top M1 M2 l' P' P2 :=
  ⟨ht.lay h.one hwf hM, ⟨fun q hq => ht.blocks _ (h.two.mem q hq), h.two.some⟩, fun p hp q hq e => by
    rcases ht.pages p hp with ⟨y, hy, e2, _⟩ | hf
    · exact h.apart y hy q hq (by rw [e2, e])
    · exact hf 0 (by rw [e]; exact h.two.mem q hq)⟩
theorem Two.give {l l' : List Tl} {P' : List Pg} (h : Two top M1 M2 l P1 P2) (hl : Lay top M1 l' P')
    (hc : (l' = l ∧ P'.map Pg.q = P1.map Pg.q) ∨ ∃ Pa p Pb, P1 = Pa ++ p :: Pb ∧ P' = Pa ++ Pb ∧ ∃ a d, l = a ++ (0, false) :: d ∧ p.q = span a ∧ l' = melt top a.reverse 0 d) : Two top M1 M2 l' P' P2 := by
  rcases hc with ⟨rfl, e⟩ | ⟨Pa, p, Pb, rfl, rfl, a, d, rfl, hp, rfl⟩
  · refine ⟨hl, h.two, fun x hx q hq e2 => ?_⟩
    have : x.q ∈ P1.map Pg.q := by rw [← e]; exact List.mem_map_of_mem hx
    obtain ⟨y, hy, e3⟩ := List.mem_map.1 this
    exact h.apart y hy q hq (by rw [e3, e2])
  · refine ⟨hl, ⟨fun q hq => ?_, h.two.some⟩, fun x hx q hq => h.apart x (by rcases List.mem_append.1 hx with hx | hx <;> simp [hx]) q hq⟩
    have hm := h.two.mem q hq
    have hne := h.apart p (by simp) q hq
    rw [melt_used, List.reverse_reverse, span_rev]
    rw [blks_same] at hm
    rcases List.mem_append.1 hm with hm | hm
    · exact List.mem_append_left _ hm
    · rcases List.mem_cons.1 hm with hm | hm
      · injection hm with hm
        omega
      · exact List.mem_append_right _ hm
end Go.Proofs.YtflkoabgkgegjaaDoor
/- Ranges of heads and places; bytes that are marked. No condition. -/
namespace Go.Proofs.YtflkoabgkgegjaaDoor
open Go.RowKit Go.Maps

def inR (R : List (Nat × Nat)) (x : Nat) : Bool := R.any fun r => decide (r.1 ≤ x ∧ x < r.1 + r.2)
def offR (r s : Nat × Nat) : Prop := r.1 + r.2 ≤ s.1 ∨ s.1 + s.2 ≤ r.1
theorem inR_app (R S : List (Nat × Nat)) (x : Nat) : inR (R ++ S) x = (inR R x || inR S x) := by simp [inR]
theorem inR_one (s m x : Nat) : inR [(s, m)] x = decide (s ≤ x ∧ x < s + m) := by simp [inR]
theorem inR_empty (R : List (Nat × Nat)) (s x : Nat) : inR (R ++ [(s, 0)]) x = inR R x := by
  rw [inR_app, inR_one, decide_eq_false (by omega), Bool.or_false]
/-- a byte of a range that is off all marked ones is not marked, nor is it by the part that went ahead -/
theorem inR_new {R : List (Nat × Nat)} {s n m : Nat} (h : ∀ r ∈ R, offR r (s, n)) (hm : m < n) : inR (R ++ [(s, m)]) (s + m) = false := by
  rw [inR_app, inR_one, decide_eq_false (by omega), Bool.or_false]
  unfold inR
  rw [List.any_eq_false]
  intro r hr
  have := h r hr
  unfold offR at this
  simp only [decide_eq_true_eq]
  simp only at this
  omega
theorem inR_step (R : List (Nat × Nat)) (s m x : Nat) : inR (R ++ [(s, m + 1)]) x = if x = s + m then true else inR (R ++ [(s, m)]) x := by
  rw [inR_app, inR_app, inR_one, inR_one]
  by_cases e : x = s + m
  · rw [if_pos e, decide_eq_true (by omega), Bool.or_true]
  · rw [if_neg e]
    congr 1
    exact decide_eq_decide.2 ⟨fun h => by omega, fun h => by omega⟩
/-- the bytes of an arena, as they are marked -/
def CM (w : World) (cb : Nat) (t : TypeId) (R : List (Nat × Nat)) : Prop := ∃ cs : Array Value, w.heap[cb]? = some (.cells cs t (0, 0)) ∧ cs.size = 65536 ∧ ∀ x, x < 65536 → cs[x]? = some (.bool (inR R x))
theorem CM.cell {w : World} {cb : Nat} {t : TypeId} {R : List (Nat × Nat)} (h : CM w cb t R) {x : Nat} (hx : x < 65536) : w.cell? ⟨cb, x, none⟩ = some (.bool (inR R x)) := by
  obtain ⟨cs, h1, _, h3⟩ := h
  rw [cell_of_row _ _ _ _ _ _ h1]
  exact h3 x hx
theorem CM.frozen {w : World} {cb : Nat} {t : TypeId} {R : List (Nat × Nat)} (h : CM w cb t R) (x : Nat) : w.frozen? ⟨cb, x, none⟩ = false := by
  obtain ⟨cs, h1, _⟩ := h
  exact frozen_of_row _ _ _ _ _ h1
theorem CM.lt {w : World} {cb : Nat} {t : TypeId} {R : List (Nat × Nat)} (h : CM w cb t R) : cb < w.heap.size := by
  obtain ⟨cs, h1, _⟩ := h
  exact blt h1
theorem CM.below {w w' : World} {cb : Nat} {t : TypeId} {R : List (Nat × Nat)} (h : CM w cb t R) (hb : Below w.heap.size w w') : CM w' cb t R := by
  obtain ⟨cs, h1, h2⟩ := h
  exact ⟨cs, (hb.block cb (blt h1)).trans h1, h2⟩
theorem CM.same {w : World} {cb : Nat} {t : TypeId} {R S : List (Nat × Nat)} (h : CM w cb t R) (e : ∀ x, inR S x = inR R x) : CM w cb t S := by
  obtain ⟨cs, h1, h2, h3⟩ := h
  exact ⟨cs, h1, h2, fun x hx => by rw [e x]; exact h3 x hx⟩
theorem CM.mark {w : World} {cb : Nat} {t : TypeId} {R : List (Nat × Nat)} {s m : Nat} (h : CM w cb t (R ++ [(s, m)])) (hx : s + m < 65536) : CM (w.setCell ⟨cb, s + m, none⟩ (.bool true)) cb t (R ++ [(s, m + 1)]) := by
  obtain ⟨cs, h1, h2, h3⟩ := h
  refine ⟨cs.setIfInBounds (s + m) (.bool true), heap_setCell_same w cb (s + m) _ _ _ h1, by rw [Array.size_setIfInBounds]; exact h2, fun x hx2 => ?_⟩
  rw [inR_step, Array.getElem?_setIfInBounds]
  by_cases e : s + m = x
  · subst e
    rw [if_pos rfl, if_pos (by omega), if_pos rfl]
  · rw [if_neg e, if_neg (fun e2 => e e2.symm)]
    exact h3 x hx2
def headsR (P : List Pg) : List (Nat × Nat) := P.map fun p => (1024 * p.q, 64)
def placesR (M size : Nat) (P : List Pg) : List (Nat × Nat) := (usedC M size P).map fun x => (x.toNat, size)
theorem usedC_rise {M size : Nat} {P : List Pg} (hr : RisesQ P) (hM : M = 960 / size) (hs : 0 < size) : (usedC M size P).Pairwise (· < ·) := by
  unfold usedC
  rw [List.pairwise_flatMap]
  constructor
  · intro p _
    unfold usedB
    rw [List.pairwise_map]
    refine List.Pairwise.imp ?_ (List.pairwise_lt_range.filter _)
    intro i j h
    have : (i + 1) * size ≤ j * size := Nat.mul_le_mul_right _ h
    rw [Nat.add_mul, Nat.one_mul] at this
    omega
  · refine List.Pairwise.imp ?_ hr
    intro p q hpq x hx y hy
    obtain ⟨i, hi, _, rfl⟩ := mem_usedB.1 hx
    obtain ⟨j, hj, _, rfl⟩ := mem_usedB.1 hy
    have h1 := place_mod (q := p.q) hM hs hi
    have h2 := place_mod (q := q.q) hM hs hj
    omega
/-- a range of a page -/
def ofPage (r : Nat × Nat) (q : Nat) : Prop := 1024 * q ≤ r.1 ∧ r.1 + r.2 ≤ 1024 * q + 1024
theorem off_pages {r s : Nat × Nat} {p q : Nat} (h1 : ofPage r p) (h2 : ofPage s q) (hne : p ≠ q) : offR r s := by
  unfold ofPage at h1 h2
  unfold offR
  rcases Nat.lt_or_ge p q with h | h
  · left; omega
  · right; omega
theorem place_end {M size j : Nat} (hM : M = 960 / size) (hj : j < M) : j * size + size ≤ 960 := by
  have : (j + 1) * size ≤ M * size := Nat.mul_le_mul_right _ hj
  have := Nat.div_mul_le_self 960 size
  rw [← hM] at this
  rw [Nat.add_mul, Nat.one_mul] at *
  omega
theorem rangesR {M size : Nat} {P : List Pg} (hr : RisesQ P) (hM : M = 960 / size) (hs : 0 < size) : (headsR P ++ placesR M size P).Pairwise offR ∧ ∀ r ∈ headsR P ++ placesR M size P, ∃ p ∈ P, ofPage r p.q := by
  have hpg : ∀ r ∈ headsR P ++ placesR M size P, ∃ p ∈ P, ofPage r p.q ∧ (r = (1024 * p.q, 64) ∨ ∃ j, j < M ∧ r = (1024 * p.q + 64 + j * size, size)) := fun r hr2 => by
    rcases List.mem_append.1 hr2 with h | h
    · obtain ⟨p, hp, rfl⟩ := List.mem_map.1 h
      exact ⟨p, hp, ⟨Nat.le_refl _, by simp only; omega⟩, .inl rfl⟩
    · obtain ⟨x, hx, rfl⟩ := List.mem_map.1 h
      obtain ⟨p, hp, j, hj, _, rfl⟩ := mem_usedC.1 hx
      have := place_end hM hj
      refine ⟨p, hp, ⟨?_, ?_⟩, .inr ⟨j, hj, by rw [Int.toNat_natCast]⟩⟩
      · simp only [Int.toNat_natCast]; omega
      · simp only [Int.toNat_natCast]; omega
  refine ⟨?_, fun r h => by obtain ⟨p, hp, h1, _⟩ := hpg r h; exact ⟨p, hp, h1⟩⟩
  rw [List.pairwise_append]
  refine ⟨?_, ?_, fun r hr1 s hs1 => ?_⟩
  · unfold headsR
    rw [List.pairwise_map]
    exact List.Pairwise.imp (fun {p q} h => by left; simp only; omega) hr
  · unfold placesR
    rw [List.pairwise_map]
    refine List.Pairwise.imp_of_mem ?_ (usedC_rise hr hM hs)
    intro x y hx hy hxy
    obtain ⟨p, hp, i, hi, _, rfl⟩ := mem_usedC.1 hx
    obtain ⟨q, hq, j, hj, _, rfl⟩ := mem_usedC.1 hy
    have h1 := place_end hM hi
    have h2 := place_end hM hj
    left
    simp only [Int.toNat_natCast]
    by_cases e : p.q = q.q
    · rw [e] at hxy ⊢
      have hij : i < j := by
        rcases Nat.lt_or_ge i j with h | h
        · exact h
        · have := Nat.mul_le_mul_right size h
          omega
      have : (i + 1) * size ≤ j * size := Nat.mul_le_mul_right _ hij
      rw [Nat.add_mul, Nat.one_mul] at this
      omega
    · omega
  · obtain ⟨p, hp, rfl⟩ := List.mem_map.1 hr1
    obtain ⟨q, hq, h2, h3⟩ := hpg s (List.mem_append_right _ hs1)
    by_cases e : p.q = q.q
    · left
      obtain ⟨x, hx, rfl⟩ := List.mem_map.1 hs1
      obtain ⟨q2, hq2, j, hj, _, rfl⟩ := mem_usedC.1 hx
      have hj2 := place_end hM hj
      unfold ofPage at h2
      simp only [Int.toNat_natCast] at h2 ⊢
      omega
    · exact off_pages (p := p.q) (q := q.q) ⟨Nat.le_refl _, by simp only; omega⟩ h2 e
/-- the heads and places of both caches are off one another -/
theorem rangesTwo {top M1 M2 s1 s2 : Nat} {l : List Tl} {P1 P2 : List Pg} (ht : Two top M1 M2 l P1 P2) (h1 : RisesQ P1) (h2 : RisesQ P2) (e1 : M1 = 960 / s1) (e2 : M2 = 960 / s2) (g1 : 0 < s1) (g2 : 0 < s2) : ((headsR P1 ++ placesR M1 s1 P1) ++ (headsR P2 ++ placesR M2 s2 P2)).Pairwise offR := by
  obtain ⟨a1, a2⟩ := rangesR h1 e1 g1
  obtain ⟨b1, b2⟩ := rangesR h2 e2 g2
  rw [List.pairwise_append]
  refine ⟨a1, b1, fun r hr s hs => ?_⟩
  obtain ⟨p, hp, h3⟩ := a2 r hr
  obtain ⟨q, hq, h4⟩ := b2 s hs
  exact off_pages h3 h4 (ht.apart p hp q hq)
theorem SGx.other {W w w' : World} {c b size M top : Nat} {gm gw : Nat → Nat} {mu n : Nat} {l : List Tl} {A : Option Addr} {cap : Nat} {P : List Pg} (h : SGx W [] w c b size M top gm gw mu n l A cap P) {x : Nat} {cs : Array Value} {t : TypeId} (hc : w.heap[x]? = some (.cells cs t (0, 0))) (hx : W.heap.size ≤ x) (t1 : t ≠ 31) (t2 : t ≠ 104) (t3 : t ≠ 102) (t4 : t ≠ 97) (t5 : t ≠ 114) (hg : w.grownBy w' (some x)) : SGx W [] w' c b size M top gm gw mu n l A cap P := by
  have st : ∀ {y : Nat} {ds : Array Value} {u : TypeId}, w.heap[y]? = some (.cells ds u (0, 0)) → u ≠ t → w'.heap[y]? = w.heap[y]? := fun hd ht => hg.block _ (blt hd) (fun e2 => two_types hd hc ht (by injection e2))
  refine ⟨h.bg.other hg hx ⟨⟨cs, _, hc, t4, t5⟩, h.bg.not_gw hc t1⟩, (st h.row t3.symm).trans h.row, ownsRow_keep h.own fun g2 hg2 => ?_, fun p hp => ?_, h.gws, h.rise, h.cnew, h.pnew, h.sep, fun x hx => absurd hx List.not_mem_nil, fun x hx => absurd hx List.not_mem_nil, fun x hx => absurd hx List.not_mem_nil, fun x hx => absurd hx List.not_mem_nil, fun x hx => absurd hx List.not_mem_nil⟩
  · obtain ⟨ds, hd⟩ := h.rowne hg2
    exact st hd t2.symm
  · have mp := h.maps p hp
    exact ⟨(st mp.1 t5.symm).trans mp.1, (st mp.2.1 t1.symm).trans mp.2.1, mp.2.2⟩

def isF : Value → Bool | .bool false => true | _ => false
variable {W w w' : World} {c1 c2 b s1 M1 s2 M2 top n : Nat} {l : List Tl} {P1 P2 : List Pg}
theorem order_page {l : List Tl} {q : Nat} (h : (q, 0) ∈ blks false 0 l) (X : Int) (hX : X = ((1024 * q : Nat) : Int)) : orderC l X = 0 := orderC_eq (.inl ⟨q, 0, by omega, h, rfl⟩)
theorem ownsRow_new {w : World} {base : Nat} {e : TypeId} {size m cap n : Nat} {A : Option Addr} {xs : List Value} (h : w.ownsRow base e size (.slice A m cap) n xs) : ∀ a, A = some a → base ≤ a.block := fun a ea => by
  rcases h.2 with ⟨hv, _⟩ | ⟨g, cap2, cur, hv, hg, _⟩
  · injection hv with h1
    rw [h1] at ea
    cases ea
  · injection hv with h1
    rw [h1] at ea
    injection ea with ea
    rw [← ea]
    exact hg
theorem headsR_take {P : List Pg} {i : Nat} (h : i < P.length) : headsR (P.take (i + 1)) = headsR (P.take i) ++ [(1024 * P[i].q, 64)] := by
  unfold headsR
  rw [List.take_add_one, List.getElem?_eq_getElem h, List.map_append]
  rfl
def placesT (M size : Nat) (P : List Pg) (i : Nat) : List (Nat × Nat) := ((usedC M size P).take i).map fun x => (x.toNat, size)
theorem placesT_succ {M size : Nat} {P : List Pg} {i : Nat} (h : i < (usedC M size P).length) : placesT M size P (i + 1) = placesT M size P i ++ [((usedC M size P)[i].toNat, size)] := by
  unfold placesT
  rw [List.take_add_one, List.getElem?_eq_getElem h, List.map_append]
  rfl
theorem placesT_all {M size : Nat} {P : List Pg} : placesT M size P (usedC M size P).length = placesR M size P := by
  unfold placesT placesR
  rw [List.take_length]
/-- a range that stands behind others among ranges off one another -/
theorem off_prefix {R S : List (Nat × Nat)} {r : Nat × Nat} (h : (R ++ r :: S).Pairwise offR) : ∀ x ∈ R, offR x r := fun x hx => (List.pairwise_append.1 h).2.2 x hx r List.mem_cons_self
theorem heads_off {R : List (Nat × Nat)} {M size : Nat} {P : List Pg} (h : (R ++ (headsR P ++ placesR M size P)).Pairwise offR) {i : Nat} (hi : i < P.length) : ∀ x ∈ R ++ headsR (P.take i), offR x (1024 * P[i].q, 64) := by
  refine off_prefix (S := headsR (P.drop (i + 1)) ++ placesR M size P) ?_
  have e : headsR P = headsR (P.take i) ++ (1024 * P[i].q, 64) :: headsR (P.drop (i + 1)) := by
    have : P = P.take i ++ P[i] :: P.drop (i + 1) := by rw [List.getElem_cons_drop, List.take_append_drop]
    unfold headsR
    conv => lhs; rw [this]
    rw [List.map_append, List.map_cons]
  rw [e] at h
  simpa [List.append_assoc] using h
theorem places_off {R : List (Nat × Nat)} {M size : Nat} {P : List Pg} (h : (R ++ (headsR P ++ placesR M size P)).Pairwise offR) {i : Nat} (hi : i < (usedC M size P).length) : ∀ x ∈ R ++ headsR P ++ placesT M size P i, offR x ((usedC M size P)[i].toNat, size) := by
  refine off_prefix (S := ((usedC M size P).drop (i + 1)).map fun x => (x.toNat, size)) ?_
  have e : placesR M size P = placesT M size P i ++ ((usedC M size P)[i].toNat, size) :: (((usedC M size P).drop (i + 1)).map fun x => (x.toNat, size)) := by
    have : usedC M size P = (usedC M size P).take i ++ (usedC M size P)[i] :: (usedC M size P).drop (i + 1) := by rw [List.getElem_cons_drop, List.take_append_drop]
    unfold placesR placesT
    conv => lhs; rw [this]
    rw [List.map_append, List.map_cons]
  rw [e] at h
  simpa [List.append_assoc] using h
end Go.Proofs.YtflkoabgkgegjaaDoor
