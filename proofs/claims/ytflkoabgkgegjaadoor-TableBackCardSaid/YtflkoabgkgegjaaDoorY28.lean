/- Two caches over one allocator. Condition: their state. -/
import Derived.Test.YtflkoabgkgegjaaDoorY27
/- Two caches over one allocator. Condition: their state. -/
namespace Go.Proofs.YtflkoabgkgegjaaDoor
open Go.RowKit Go.Maps
variable {W w w' : World} {c1 c2 b s1 M1 s2 M2 top n : Nat} {l : List Tl} {P1 P2 : List Pg}

def SG2 (W w : World) (c1 c2 b s1 M1 s2 M2 top n : Nat) (l : List Tl) (P1 P2 : List Pg) : Prop := ∃ gm gw mu A1 cap1 A2 cap2, SGx W [] w c1 b s1 M1 top gm gw mu n l A1 cap1 P1 ∧ SGx W [] w c2 b s2 M2 top gm gw mu n l A2 cap2 P2 ∧ c1 ≠ c2 ∧ (∀ p ∈ P1, ∀ q ∈ P2, p.gw ≠ q.gw) ∧ ∀ g, some g = (Value.slice A1 P1.length cap1).ownBlock → some g ≠ (Value.slice A2 P2.length cap2).ownBlock
theorem SG2.swap (h : SG2 W w c1 c2 b s1 M1 s2 M2 top n l P1 P2) : SG2 W w c2 c1 b s2 M2 s1 M1 top n l P2 P1 := by
  obtain ⟨gm, gw, mu, A1, cap1, A2, cap2, h1, h2, h3, h4, h5⟩ := h
  exact ⟨gm, gw, mu, A2, cap2, A1, cap1, h2, h1, h3.symm, fun p hp q hq e => h4 q hq p hp e.symm, fun g e1 e2 => h5 g e2 e1⟩
/-- the one cache is used, the other's blocks are held -/
theorem SG2.one (h : SG2 W w c1 c2 b s1 M1 s2 M2 top n l P1 P2) : ∃ K, SG W K w c1 b s1 M1 top n l P1 ∧ ∀ w' n' l' P', SG W K w' c1 b s1 M1 top n' l' P' → SG2 W w' c1 c2 b s1 M1 s2 M2 top n' l' P' P2 := by
  obtain ⟨gm, gw, mu, A1, cap1, A2, cap2, h1, h2, h3, h4, h5⟩ := h
  obtain ⟨AK, ha1, ha2⟩ : ∃ AK : List (Nat × Obj), (∀ x ∈ AK, ∃ cs, x.2 = .cells cs 104 (0, 0) ∧ w.heap[x.1]? = some x.2 ∧ some x.1 = (Value.slice A2 P2.length cap2).ownBlock) ∧ ∀ g, some g = (Value.slice A2 P2.length cap2).ownBlock → ∃ cs, w.heap[g]? = some (.cells cs 104 (0, 0)) ∧ (g, .cells cs 104 (0, 0)) ∈ AK := by
    cases e : (Value.slice A2 P2.length cap2).ownBlock with
    | none => exact ⟨[], fun x hx => absurd hx List.not_mem_nil, fun g hg => by cases hg⟩
    | some g =>
      obtain ⟨cs, hc⟩ := h2.rowne e.symm
      exact ⟨[(g, .cells cs 104 (0, 0))], fun x hx => by rw [List.mem_singleton.1 hx]; exact ⟨cs, rfl, hc, rfl⟩, fun g2 hg2 => by injection hg2 with hg2; subst hg2; exact ⟨cs, hc, List.mem_singleton.2 rfl⟩⟩
  obtain ⟨K, hK⟩ : ∃ K, K = (c2, Obj.cells (cRow b (s2 : Int) A2 P2.length cap2) 102 (0, 0)) :: (AK ++ P2.flatMap fun p => [(p.gm, Obj.cells #[.int .i64 (M2 : Int), .slice (some ⟨p.gw, 0, none⟩) p.ws.length p.ws.length] 114 (0, 0)), (p.gw, Obj.cells (u64s p.ws).toArray 31 (0, 0))]) := ⟨_, rfl⟩
  have inK : ∀ x ∈ K, x = (c2, Obj.cells (cRow b (s2 : Int) A2 P2.length cap2) 102 (0, 0)) ∨ x ∈ AK ∨ ∃ p ∈ P2, x = (p.gm, Obj.cells #[.int .i64 (M2 : Int), .slice (some ⟨p.gw, 0, none⟩) p.ws.length p.ws.length] 114 (0, 0)) ∨ x = (p.gw, Obj.cells (u64s p.ws).toArray 31 (0, 0)) := fun x hx => by
    rw [hK] at hx
    rcases List.mem_cons.1 hx with hx | hx
    · exact .inl hx
    · rcases List.mem_append.1 hx with hx | hx
      · exact .inr (.inl hx)
      · obtain ⟨p, hp, hx⟩ := List.mem_flatMap.1 hx
        simp only [List.mem_cons, List.not_mem_nil, or_false] at hx
        exact .inr (.inr ⟨p, hp, hx⟩)
  have kRow : (c2, Obj.cells (cRow b (s2 : Int) A2 P2.length cap2) 102 (0, 0)) ∈ K := by rw [hK]; exact List.mem_cons_self
  have kA : ∀ x ∈ AK, x ∈ K := fun x hx => by rw [hK]; exact List.mem_cons_of_mem _ (List.mem_append_left _ hx)
  have kgm : ∀ p ∈ P2, (p.gm, Obj.cells #[.int .i64 (M2 : Int), .slice (some ⟨p.gw, 0, none⟩) p.ws.length p.ws.length] 114 (0, 0)) ∈ K := fun p hp => by
    rw [hK]
    exact List.mem_cons_of_mem _ (List.mem_append_right _ (List.mem_flatMap.2 ⟨p, hp, by simp⟩))
  have kgw : ∀ p ∈ P2, (p.gw, Obj.cells (u64s p.ws).toArray 31 (0, 0)) ∈ K := fun p hp => by
    rw [hK]
    exact List.mem_cons_of_mem _ (List.mem_append_right _ (List.mem_flatMap.2 ⟨p, hp, by simp⟩))
  clear hK
  have hkept : ∀ x ∈ K, w.heap[x.1]? = some x.2 := fun x hx => by
    rcases inK x hx with rfl | hx | ⟨p, hp, rfl | rfl⟩
    · exact h2.row
    · obtain ⟨cs, _, hc, _⟩ := ha1 x hx
      exact hc
    · exact (h2.maps p hp).1
    · exact (h2.maps p hp).2.1
  refine ⟨K, ⟨gm, gw, mu, A1, cap1, h1.bg, h1.row, h1.own, h1.maps, h1.gws, h1.rise, h1.cnew, h1.pnew, h1.sep, hkept, fun x hx => ?_, fun x hx k hk => ?_, fun x hx p hp => ?_, fun x hx e => ?_⟩, fun w' n' l' P' h' => ?_⟩
  · rcases inK x hx with rfl | hx | ⟨p, hp, rfl | rfl⟩
    · exact ⟨h3.symm, h1.bg.not_mu h2.row⟩
    · obtain ⟨cs, e, hc, _⟩ := ha1 x hx
      rw [e] at hc
      exact ⟨two_types hc h1.row (by decide), h1.bg.not_mu hc⟩
    · exact ⟨two_types (h2.maps p hp).1 h1.row (by decide), h1.bg.not_mu (h2.maps p hp).1⟩
    · exact ⟨two_types (h2.maps p hp).2.1 h1.row (by decide), h1.bg.not_mu (h2.maps p hp).2.1⟩
  · rcases inK x hx with rfl | hx | ⟨p, hp, rfl | rfl⟩
    · exact h1.bg.not_gw h2.row (by decide) k hk
    · obtain ⟨cs, e, hc, _⟩ := ha1 x hx
      rw [e] at hc
      exact h1.bg.not_gw hc (by decide) k hk
    · exact h1.bg.not_gw (h2.maps p hp).1 (by decide) k hk
    · exact h2.sep p hp k hk
  · rcases inK x hx with rfl | hx | ⟨q, hq, rfl | rfl⟩
    · exact two_types h2.row (h1.maps p hp).2.1 (by decide)
    · obtain ⟨cs, e, hc, _⟩ := ha1 x hx
      rw [e] at hc
      exact two_types hc (h1.maps p hp).2.1 (by decide)
    · exact two_types (h2.maps q hq).1 (h1.maps p hp).2.1 (by decide)
    · exact (h4 p hp q hq).symm
  · obtain ⟨ds, hd⟩ := h1.rowne e
    rcases inK x hx with rfl | hx | ⟨q, hq, rfl | rfl⟩
    · exact two_types h2.row hd (by decide) rfl
    · obtain ⟨cs, _, _, e3⟩ := ha1 x hx
      exact h5 x.1 e e3
    · exact two_types (h2.maps q hq).1 hd (by decide) rfl
    · exact two_types (h2.maps q hq).2.1 hd (by decide) rfl
  · obtain ⟨gm', gw', mu', A1', cap1', g⟩ := h'
    refine ⟨gm', gw', mu', A1', cap1', A2, cap2, g.sub (fun x hx => absurd hx List.not_mem_nil), ⟨g.bg, g.kept _ kRow, ownsRow_keep h2.own fun g2 hg2 => ?_, fun p hp => ⟨g.kept _ (kgm p hp), g.kept _ (kgw p hp), (h2.maps p hp).2.2⟩, h2.gws, h2.rise, h2.cnew, h2.pnew, fun p hp k hk => g.kgw _ (kgw p hp) k hk, fun x hx => absurd hx List.not_mem_nil, fun x hx => absurd hx List.not_mem_nil, fun x hx => absurd hx List.not_mem_nil, fun x hx => absurd hx List.not_mem_nil, fun x hx => absurd hx List.not_mem_nil⟩, (g.knc _ kRow).1.symm, fun p hp q hq e => g.kpg _ (kgw q hq) p hp e.symm, fun g2 e1 e2 => ?_⟩
    · obtain ⟨cs, hc, hm⟩ := ha2 g2 hg2
      exact (g.kept _ (kA _ hm)).trans hc.symm
    · obtain ⟨cs, hc, hm⟩ := ha2 g2 e2
      exact g.kA _ (kA _ hm) e1
theorem SG2.below (h : SG2 W w c1 c2 b s1 M1 s2 M2 top n l P1 P2) (hb : Below w.heap.size w w') : SG2 W w' c1 c2 b s1 M1 s2 M2 top n l P1 P2 := by
  obtain ⟨gm, gw, mu, A1, cap1, A2, cap2, h1, h2, h3, h4, h5⟩ := h
  exact ⟨gm, gw, mu, A1, cap1, A2, cap2, h1.below hb, h2.below hb, h3, h4, h5⟩
theorem SG2.way (h : SG2 W w c1 c2 b s1 M1 s2 M2 top n l P1 P2) : Below W.heap.size W w := by
  obtain ⟨gm, gw, mu, A1, cap1, A2, cap2, h1, _⟩ := h
  exact h1.bg.way
/-- a second cache is made -/
theorem SG2.made (h : SG W [] w c1 b s1 M1 top n l P1) (h1 : 16 ≤ s2) (h2 : s2 ≤ 512) (h3 : (s2 : Int).tmod 16 = 0) (M : Nat) (S : Int) (hS : S = (s2 : Int)) :
    Calls Tryd.prog 24 #[.pointer (some ⟨b, 0, none⟩), .int .i64 S] w fun e w' => ∃ c, e = .returned (.pointer (some ⟨c, 0, none⟩)) ∧ SG2 W w' c1 c b s1 M1 s2 M top n l P1 [] := by
  subst hS
  refine (snew_yes b s2 (by omega) (by omega) h3 w).mono ?_
  rintro e w' ⟨rfl, rfl⟩
  obtain ⟨gm, gw, mu, A, cap, h⟩ := h
  have hlt := h.clt
  exact ⟨_, rfl, gm, gw, mu, A, cap, none, 0, h.alloc _, ⟨(h.bg.below ((Below.refl _ w).alloc (Nat.le_refl _) _)).rebase, heap_alloc_new w _, World.ownsRow_nil _ _ _ _, fun p hp => absurd hp List.not_mem_nil, List.Pairwise.nil, List.Pairwise.nil, h.bg.way.size, fun p hp => absurd hp List.not_mem_nil, fun p hp => absurd hp List.not_mem_nil, fun p hp => absurd hp List.not_mem_nil, fun p hp => absurd hp List.not_mem_nil, fun p hp => absurd hp List.not_mem_nil, fun p hp => absurd hp List.not_mem_nil, fun p hp => absurd hp List.not_mem_nil⟩, by omega, fun p _ q hq => absurd hq List.not_mem_nil, fun g _ e => by cases e⟩
/-- the laws' invariant of two caches -/
structure Two (top M1 M2 : Nat) (l : List Tl) (P1 P2 : List Pg) : Prop where
  one : Lay top M1 l P1
  two : Lay top M2 l P2
  apart : ∀ p ∈ P1, ∀ q ∈ P2, p.q ≠ q.q
theorem Two.swap {l : List Tl} (h : Two top M1 M2 l P1 P2) : Two top M2 M1 l P2 P1 := ⟨h.two, h.one, fun p hp q hq e => h.apart q hq p hp e.symm⟩
theorem Two.take {l l' : List Tl} {P' : List Pg} {size : Nat} {at_ er : Int} (h : Two top M1 M2 l P1 P2) (ht : TakeS top M1 size l P1 at_ er l' P') (hwf : ∀ p ∈ P1, WF M1 p.ws) (hM : 0 < M1) : Two top M1 M2 l' P' P2 :=
  ⟨ht.lay h.one hwf hM, ⟨fun q hq => ht.blocks _ (h.two.mem q hq), h.two.some⟩, fun p hp q hq e => by
    rcases ht.pages p hp with ⟨y, hy, e2, _⟩ | hf
    · exact h.apart y hy q hq (by rw [e2, e])
    · exact hf 0 (by rw [e]; exact h.two.mem q hq)⟩
theorem Two.give {l l' : List Tl} {P' : List Pg} (h : Two top M1 M2 l P1 P2) (hl : Lay top M1 l' P')
    (hc : (l' = l ∧ P'.map Pg.q = P1.map Pg.q) ∨ ∃ Pa p Pb, P1 = Pa ++ p :: Pb ∧ P' = Pa ++ Pb ∧ ∃ a d, l = a ++ (0, false) :: d ∧ p.q = span a ∧ l' = melt top a.reverse 0 d) : Two top M1 M2 l' P' P2 := by
  rcases hc with ⟨rfl, e⟩ | ⟨Pa, p, Pb, rfl, rfl, a, d, rfl, hp, rfl⟩
  · refine ⟨hl, h.two, fun x hx q hq e2 => ?_⟩
    have : x.q ∈ P1.map Pg.q := by rw [← e]; exact List.mem_map_of_mem hx
    obtain ⟨y, hy, e3⟩ := List.mem_map.1 this
    exact h.apart y hy q hq (by rw [e3, e2])
  · refine ⟨hl, ⟨fun q hq => ?_, h.two.some⟩, fun x hx q hq => h.apart x (by rcases List.mem_append.1 hx with hx | hx <;> simp [hx]) q hq⟩
    have hm := h.two.mem q hq
    have hne := h.apart p (by simp) q hq
    rw [melt_used, List.reverse_reverse, span_rev]
    rw [blks_same] at hm
    rcases List.mem_append.1 hm with hm | hm
    · exact List.mem_append_left _ hm
    · rcases List.mem_cons.1 hm with hm | hm
      · injection hm with hm
        omega
      · exact List.mem_append_right _ hm
end Go.Proofs.YtflkoabgkgegjaaDoor
