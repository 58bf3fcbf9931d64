/- Several caches over one allocator. Condition: their state. And what follows from it. -/
import Derived.Test.YtflkoabgkgegjaaGreatDoorY19
import Derived.WalkKit
import Derived.Lib.Hide
import Derived.Test.YtflkoabgkgegjaaGreatDoorY7
/- Several caches over one allocator. Condition: their state. -/
namespace Go.Proofs.YtflkoabgkgegjaaGreatDoor
open Go.RowKit Go.Maps

/-- two caches have no block together -/
def ApartC (c1 : Nat) (A1 : Option Addr) (cap1 : Nat) (P1 : List Pg) (c2 : Nat) (A2 : Option Addr) (cap2 : Nat) (P2 : List Pg) : Prop :=
  c1 ≠ c2 ∧ (∀ p ∈ P1, ∀ q ∈ P2, p.gw ≠ q.gw) ∧ ∀ g, some g = (Value.slice A1 P1.length cap1).ownBlock → some g ≠ (Value.slice A2 P2.length cap2).ownBlock
theorem ApartC.symm {c1 : Nat} {A1 : Option Addr} {cap1 : Nat} {P1 : List Pg} {c2 : Nat} {A2 : Option Addr} {cap2 : Nat} {P2 : List Pg} (h : ApartC c1 A1 cap1 P1 c2 A2 cap2 P2) : ApartC c2 A2 cap2 P2 c1 A1 cap1 P1 :=
  ⟨h.1.symm, fun p hp q hq e => h.2.1 q hq p hp e.symm, fun g e1 e2 => h.2.2 g e2 e1⟩
/-- a cache's blocks, held while another cache over the allocator is used -/
theorem SGx.park {W w : World} {K : List (Nat × Obj)} {c b s M top : Nat} {gm gw : Nat → Nat} {mu n : Nat} {l : List Tl} {A : Option Addr} {cap : Nat} {P : List Pg} (h : SGx W K w c b s M top gm gw mu n l A cap P) :
    ∃ KB : List (Nat × Obj),
      (∀ (K2 : List (Nat × Obj)) (c2 s2 M2 : Nat) (A2 : Option Addr) (cap2 : Nat) (P2 : List Pg), SGx W K2 w c2 b s2 M2 top gm gw mu n l A2 cap2 P2 → ApartC c A cap P c2 A2 cap2 P2 → SGx W (KB ++ K2) w c2 b s2 M2 top gm gw mu n l A2 cap2 P2) ∧
      (∀ (K2 : List (Nat × Obj)) (w' : World) (c2 s2 M2 : Nat) (gm' gw' : Nat → Nat) (mu' n' : Nat) (l' : List Tl) (A2 : Option Addr) (cap2 : Nat) (P2 : List Pg), SGx W K2 w' c2 b s2 M2 top gm' gw' mu' n' l' A2 cap2 P2 → (∀ x ∈ KB, x ∈ K2) → (∀ x ∈ K, x ∈ K2) →
        SGx W K w' c b s M top gm' gw' mu' n' l' A cap P ∧ ApartC c A cap P c2 A2 cap2 P2) := by
  obtain ⟨AK, ha1, ha2⟩ : ∃ AK : List (Nat × Obj), (∀ x ∈ AK, ∃ cs, x.2 = .cells cs 140 (0, 0) ∧ w.heap[x.1]? = some x.2 ∧ some x.1 = (Value.slice A P.length cap).ownBlock) ∧ ∀ g, some g = (Value.slice A P.length cap).ownBlock → ∃ cs, w.heap[g]? = some (.cells cs 140 (0, 0)) ∧ (g, .cells cs 140 (0, 0)) ∈ AK := by
    cases e : (Value.slice A P.length cap).ownBlock with
    | none => exact ⟨[], fun x hx => absurd hx List.not_mem_nil, fun g hg => by cases hg⟩
    | some g =>
      obtain ⟨cs, hc⟩ := h.rowne e.symm
      exact ⟨[(g, .cells cs 140 (0, 0))], fun x hx => by rw [List.mem_singleton.1 hx]; exact ⟨cs, rfl, hc, rfl⟩, fun g2 hg2 => by injection hg2 with hg2; subst hg2; exact ⟨cs, hc, List.mem_singleton.2 rfl⟩⟩
  obtain ⟨KB, hK⟩ : ∃ KB, KB = (c, Obj.cells (cRow b (s : Int) A P.length cap) 133 (0, 0)) :: (AK ++ P.flatMap fun p => [(p.gm, Obj.cells #[.int .i64 (M : Int), .slice (some ⟨p.gw, 0, none⟩) p.ws.length p.ws.length] 118 (0, 0)), (p.gw, Obj.cells (u64s p.ws).toArray 27 (0, 0))]) := ⟨_, rfl⟩
  have inK : ∀ x ∈ KB, x = (c, Obj.cells (cRow b (s : Int) A P.length cap) 133 (0, 0)) ∨ x ∈ AK ∨ ∃ p ∈ P, x = (p.gm, Obj.cells #[.int .i64 (M : Int), .slice (some ⟨p.gw, 0, none⟩) p.ws.length p.ws.length] 118 (0, 0)) ∨ x = (p.gw, Obj.cells (u64s p.ws).toArray 27 (0, 0)) := fun x hx => by
    rw [hK] at hx
    rcases List.mem_cons.1 hx with hx | hx
    · exact .inl hx
    · rcases List.mem_append.1 hx with hx | hx
      · exact .inr (.inl hx)
      · obtain ⟨p, hp, hx⟩ := List.mem_flatMap.1 hx
        simp only [List.mem_cons, List.not_mem_nil, or_false] at hx
        exact .inr (.inr ⟨p, hp, hx⟩)
  have kRow : (c, Obj.cells (cRow b (s : Int) A P.length cap) 133 (0, 0)) ∈ KB := by rw [hK]; exact List.mem_cons_self
  have kA : ∀ x ∈ AK, x ∈ KB := fun x hx => by rw [hK]; exact List.mem_cons_of_mem _ (List.mem_append_left _ hx)
  have kgm : ∀ p ∈ P, (p.gm, Obj.cells #[.int .i64 (M : Int), .slice (some ⟨p.gw, 0, none⟩) p.ws.length p.ws.length] 118 (0, 0)) ∈ KB := fun p hp => by
    rw [hK]
    exact List.mem_cons_of_mem _ (List.mem_append_right _ (List.mem_flatMap.2 ⟨p, hp, by simp⟩))
  have kgw : ∀ p ∈ P, (p.gw, Obj.cells (u64s p.ws).toArray 27 (0, 0)) ∈ KB := fun p hp => by
    rw [hK]
    exact List.mem_cons_of_mem _ (List.mem_append_right _ (List.mem_flatMap.2 ⟨p, hp, by simp⟩))
  clear hK
  have hkept : ∀ x ∈ KB, w.heap[x.1]? = some x.2 := fun x hx => by
    rcases inK x hx with rfl | hx | ⟨p, hp, rfl | rfl⟩
    · exact h.row
    · obtain ⟨cs, _, hc, _⟩ := ha1 x hx
      exact hc
    · exact (h.maps p hp).1
    · exact (h.maps p hp).2.1
  refine ⟨KB, fun K2 c2 s2 M2 A2 cap2 P2 h1 ⟨h3, h4, h5⟩ => ⟨h1.bg, h1.row, h1.own, h1.maps, h1.gws, h1.rise, h1.cnew, h1.pnew, h1.sep, fun x hx => ?_, fun x hx => ?_, fun x hx k hk => ?_, fun x hx p hp => ?_, fun x hx e => ?_⟩, fun K2 w' c2 s2 M2 gm' gw' mu' n' l' A2 cap2 P2 g hsub hsubK => ?_⟩
  · rcases List.mem_append.1 hx with hx | hx
    · exact hkept x hx
    · exact h1.kept x hx
  · rcases List.mem_append.1 hx with hx | hx
    · rcases inK x hx with rfl | hx | ⟨p, hp, rfl | rfl⟩
      · exact ⟨h3, h1.bg.not_mu h.row⟩
      · obtain ⟨cs, e, hc, _⟩ := ha1 x hx
        rw [e] at hc
        exact ⟨two_types hc h1.row (by decide), h1.bg.not_mu hc⟩
      · exact ⟨two_types (h.maps p hp).1 h1.row (by decide), h1.bg.not_mu (h.maps p hp).1⟩
      · exact ⟨two_types (h.maps p hp).2.1 h1.row (by decide), h1.bg.not_mu (h.maps p hp).2.1⟩
    · exact h1.knc x hx
  · rcases List.mem_append.1 hx with hx | hx
    · rcases inK x hx with rfl | hx | ⟨p, hp, rfl | rfl⟩
      · exact h1.bg.not_gw h.row (by decide) k hk
      · obtain ⟨cs, e, hc, _⟩ := ha1 x hx
        rw [e] at hc
        exact h1.bg.not_gw hc (by decide) k hk
      · exact h1.bg.not_gw (h.maps p hp).1 (by decide) k hk
      · exact h.sep p hp k hk
    · exact h1.kgw x hx k hk
  · rcases List.mem_append.1 hx with hx | hx
    · rcases inK x hx with rfl | hx | ⟨q, hq, rfl | rfl⟩
      · exact two_types h.row (h1.maps p hp).2.1 (by decide)
      · obtain ⟨cs, e, hc, _⟩ := ha1 x hx
        rw [e] at hc
        exact two_types hc (h1.maps p hp).2.1 (by decide)
      · exact two_types (h.maps q hq).1 (h1.maps p hp).2.1 (by decide)
      · exact h4 q hq p hp
    · exact h1.kpg x hx p hp
  · rcases List.mem_append.1 hx with hx | hx
    · obtain ⟨ds, hd⟩ := h1.rowne e
      rcases inK x hx with rfl | hx | ⟨q, hq, rfl | rfl⟩
      · exact two_types h.row hd (by decide) rfl
      · obtain ⟨cs, _, _, e3⟩ := ha1 x hx
        exact h5 x.1 e3 e
      · exact two_types (h.maps q hq).1 hd (by decide) rfl
      · exact two_types (h.maps q hq).2.1 hd (by decide) rfl
    · exact h1.kA x hx e
  · refine ⟨⟨g.bg, g.kept _ (hsub _ kRow), ownsRow_keep h.own fun g2 hg2 => ?_, fun p hp => ⟨g.kept _ (hsub _ (kgm p hp)), g.kept _ (hsub _ (kgw p hp)), (h.maps p hp).2.2⟩, h.gws, h.rise, h.cnew, h.pnew, fun p hp k hk => g.kgw _ (hsub _ (kgw p hp)) k hk, fun x hx => g.kept x (hsubK x hx), fun x hx => ⟨(h.knc x hx).1, (g.knc x (hsubK x hx)).2⟩, fun x hx k hk => g.kgw x (hsubK x hx) k hk, h.kpg, h.kA⟩, (g.knc _ (hsub _ kRow)).1, fun p hp q hq e => g.kpg _ (hsub _ (kgw p hp)) q hq e, fun g2 e1 e2 => ?_⟩
    · obtain ⟨cs, hc, hm⟩ := ha2 g2 hg2
      exact (g.kept _ (hsub _ (kA _ hm))).trans hc.symm
    · obtain ⟨cs, hc, hm⟩ := ha2 g2 e1
      exact g.kA _ (hsub _ (kA _ hm)) e2
/-- caches of the classes of I over one allocator -/
def SGF (W : World) (K : List (Nat × Obj)) (w : World) (I : List Nat) (c sz M : Nat → Nat) (b top n : Nat) (l : List Tl) (P : Nat → List Pg) : Prop :=
  ∃ (gm gw : Nat → Nat) (mu : Nat) (A : Nat → Option Addr) (cap : Nat → Nat), (∀ k ∈ I, SGx W K w (c k) b (sz k) (M k) top gm gw mu n l (A k) (cap k) (P k)) ∧ ∀ j ∈ I, ∀ k ∈ I, j ≠ k → ApartC (c j) (A j) (cap j) (P j) (c k) (A k) (cap k) (P k)
/-- a function turned at a place -/
def updF {α : Type} (f : Nat → α) (k : Nat) (x : α) (j : Nat) : α := if j = k then x else f j
theorem updF_same {α : Type} (f : Nat → α) (k : Nat) (x : α) : updF f k x k = x := if_pos rfl
theorem updF_other {α : Type} (f : Nat → α) {k j : Nat} (x : α) (h : j ≠ k) : updF f k x j = f j := if_neg h
section
variable {W w w' : World} {K : List (Nat × Obj)} {I : List Nat} {c sz M : Nat → Nat} {b top n : Nat} {l : List Tl} {P : Nat → List Pg}
theorem SGF.one (h : SGF W K w I c sz M b top n l P) {k : Nat} (hk : k ∈ I) : ∃ K', SG W K' w (c k) b (sz k) (M k) top n l (P k) ∧ ∀ w' n' l' P', SG W K' w' (c k) b (sz k) (M k) top n' l' P' → SGF W K w' I c sz M b top n' l' (updF P k P') := by
  obtain ⟨gm, gw, mu, A, cap, h1, h2⟩ := h
  have park : ∀ J : List Nat, (∀ j ∈ J, j ∈ I) → ∃ K', (∀ x ∈ K, x ∈ K') ∧ SGx W K' w (c k) b (sz k) (M k) top gm gw mu n l (A k) (cap k) (P k) ∧
      ∀ j ∈ J, j ≠ k → ∀ (K2 : List (Nat × Obj)) (w' : World) (gm' gw' : Nat → Nat) (mu' n' : Nat) (l' : List Tl) (A2 : Option Addr) (cap2 : Nat) (P2 : List Pg), (∀ x ∈ K', x ∈ K2) → SGx W K2 w' (c k) b (sz k) (M k) top gm' gw' mu' n' l' A2 cap2 P2 →
        SGx W K w' (c j) b (sz j) (M j) top gm' gw' mu' n' l' (A j) (cap j) (P j) ∧ ApartC (c j) (A j) (cap j) (P j) (c k) A2 cap2 P2 := by
    intro J
    induction J with
    | nil => exact fun _ => ⟨K, fun x hx => hx, h1 k hk, fun j hj => absurd hj List.not_mem_nil⟩
    | cons j J ih =>
      intro hJ
      obtain ⟨K', g1, g2, g3⟩ := ih (fun i hi => hJ i (List.mem_cons_of_mem _ hi))
      by_cases e : j = k
      · refine ⟨K', g1, g2, fun i hi hne => ?_⟩
        rcases List.mem_cons.1 hi with rfl | hi
        · exact absurd e hne
        · exact g3 i hi hne
      · have hj := hJ j List.mem_cons_self
        obtain ⟨KB, p1, p2⟩ := (h1 j hj).park
        refine ⟨KB ++ K', fun x hx => List.mem_append_right _ (g1 x hx), p1 _ _ _ _ _ _ _ g2 (h2 j hj k hk e), fun i hi hne K2 w' gm' gw' mu' n' l' A2 cap2 P2 hs g => ?_⟩
        rcases List.mem_cons.1 hi with rfl | hi
        · exact p2 K2 w' _ _ _ _ _ _ _ _ _ _ _ g (fun x hx => hs x (List.mem_append_left _ hx)) (fun x hx => hs x (List.mem_append_right _ (g1 x hx)))
        · exact g3 i hi hne K2 w' gm' gw' mu' n' l' A2 cap2 P2 (fun x hx => hs x (List.mem_append_right _ hx)) g
  obtain ⟨K', g1, g2, g3⟩ := park I (fun j hj => hj)
  refine ⟨K', ⟨gm, gw, mu, A k, cap k, g2⟩, fun w' n' l' P' ⟨gm', gw', mu', A', cap', g⟩ => ⟨gm', gw', mu', updF A k A', updF cap k cap', fun j hj => ?_, fun i hi j hj hne => ?_⟩⟩
  · by_cases e : j = k
    · subst e
      rw [updF_same, updF_same, updF_same]
      exact g.sub g1
    · rw [updF_other _ _ e, updF_other _ _ e, updF_other _ _ e]
      exact (g3 j hj e K' w' _ _ _ _ _ _ _ _ (fun x hx => hx) g).1
  · by_cases e : i = k
    · subst e
      have e2 : j ≠ i := fun h => hne h.symm
      rw [updF_same, updF_same, updF_same, updF_other _ _ e2, updF_other _ _ e2, updF_other _ _ e2]
      exact (g3 j hj e2 K' w' _ _ _ _ _ _ _ _ (fun x hx => hx) g).2.symm
    · rw [updF_other _ _ e, updF_other _ _ e, updF_other _ _ e]
      by_cases e2 : j = k
      · subst e2
        rw [updF_same, updF_same, updF_same]
        exact (g3 i hi e K' w' _ _ _ _ _ _ _ _ (fun x hx => hx) g).2
      · rw [updF_other _ _ e2, updF_other _ _ e2, updF_other _ _ e2]
        exact h2 i hi j hj hne
theorem SGF.below (h : SGF W K w I c sz M b top n l P) (hb : Below w.heap.size w w') : SGF W K w' I c sz M b top n l P := by
  obtain ⟨gm, gw, mu, A, cap, h1, h2⟩ := h
  exact ⟨gm, gw, mu, A, cap, fun k hk => (h1 k hk).below hb, h2⟩
theorem SGF.at (h : SGF W K w I c sz M b top n l P) {k : Nat} (hk : k ∈ I) : SG W K w (c k) b (sz k) (M k) top n l (P k) := by
  obtain ⟨gm, gw, mu, A, cap, h1, h2⟩ := h
  exact ⟨gm, gw, mu, A k, cap k, h1 k hk⟩
theorem SGF.sub {K' : List (Nat × Obj)} (h : SGF W K w I c sz M b top n l P) (hs : ∀ x ∈ K', x ∈ K) : SGF W K' w I c sz M b top n l P := by
  obtain ⟨gm, gw, mu, A, cap, h1, h2⟩ := h
  exact ⟨gm, gw, mu, A, cap, fun k hk => (h1 k hk).sub hs, h2⟩
theorem SGF.monon {n' : Nat} (h : SGF W K w I c sz M b top n l P) (hn : n ≤ n') : SGF W K w I c sz M b top n' l P := by
  obtain ⟨gm, gw, mu, A, cap, h1, h2⟩ := h
  exact ⟨gm, gw, mu, A, cap, fun k hk => (h1 k hk).monon hn, h2⟩
theorem SGF.congr {P' : Nat → List Pg} (h : SGF W K w I c sz M b top n l P) (he : ∀ k ∈ I, P' k = P k) : SGF W K w I c sz M b top n l P' := by
  obtain ⟨gm, gw, mu, A, cap, h1, h2⟩ := h
  exact ⟨gm, gw, mu, A, cap, fun k hk => by rw [he k hk]; exact h1 k hk, fun j hj k hk hne => by rw [he j hj, he k hk]; exact h2 j hj k hk hne⟩
theorem SGF.other (h : SGF W [] w I c sz M b top n l P) {x : Nat} {cs : Array Value} {t : TypeId} (hc : w.heap[x]? = some (.cells cs t (0, 0))) (hx : W.heap.size ≤ x) (t1 : t ≠ 27) (t2 : t ≠ 140) (t3 : t ≠ 133) (t4 : t ≠ 128) (t5 : t ≠ 118) (hg : w.grownBy w' (some x)) : SGF W [] w' I c sz M b top n l P := by
  obtain ⟨gm, gw, mu, A, cap, h1, h2⟩ := h
  exact ⟨gm, gw, mu, A, cap, fun k hk => (h1 k hk).other hc hx t1 t2 t3 t4 t5 hg, h2⟩
end
end Go.Proofs.YtflkoabgkgegjaaGreatDoor
/- What other blocks do while caches of a family are used; the plain law of their pages. Condition: their state. -/
namespace Go.Proofs.YtflkoabgkgegjaaGreatDoor
open Go.RowKit Go.Maps

/-- the types of the blocks that caches and the allocator write -/
def OffT (t : TypeId) : Prop := t ≠ 27 ∧ t ≠ 140 ∧ t ≠ 133
/-- every block of another type stands -/
def Keep (w w' : World) : Prop := ∀ (x : Nat) (cs : Array Value) (t : TypeId), w.heap[x]? = some (.cells cs t (0, 0)) → OffT t → w'.heap[x]? = some (.cells cs t (0, 0))
theorem Keep.of_below {w w' : World} (h : Below w.heap.size w w') : Keep w w' := fun x cs t hx _ => (h.block x (blt hx)).trans hx
theorem Keep.trans {a b c : World} (h1 : Keep a b) (h2 : Keep b c) : Keep a c := fun x cs t hx ht => h2 x cs t (h1 x cs t hx ht) ht
open Classical in
theorem all_blocks (w : World) : ∃ K : List (Nat × Obj), (∀ x ∈ K, w.heap[x.1]? = some x.2 ∧ ∃ cs t, x.2 = .cells cs t (0, 0) ∧ OffT t) ∧ ∀ (x : Nat) (cs : Array Value) (t : TypeId), w.heap[x]? = some (.cells cs t (0, 0)) → OffT t → (x, .cells cs t (0, 0)) ∈ K := by
  refine ⟨((List.range w.heap.size).filterMap fun i => w.heap[i]?.map fun o => (i, o)).filter fun x => decide (∃ cs t, x.2 = .cells cs t (0, 0) ∧ OffT t), fun x hx => ?_, fun x cs t hx ht => ?_⟩
  · obtain ⟨h1, h2⟩ := List.mem_filter.1 hx
    obtain ⟨i, _, h3⟩ := List.mem_filterMap.1 h1
    cases ho : w.heap[i]? with
    | none => rw [ho] at h3; cases h3
    | some o =>
      rw [ho] at h3
      injection h3 with h3
      subst h3
      exact ⟨ho, of_decide_eq_true h2⟩
  · exact List.mem_filter.2 ⟨List.mem_filterMap.2 ⟨x, List.mem_range.2 (blt hx), by rw [hx]; rfl⟩, decide_eq_true ⟨cs, t, rfl, ht⟩⟩
theorem SGx.holdsK {W w : World} {c b size M top n : Nat} {l : List Tl} {P : List Pg} {gm gw : Nat → Nat} {mu : Nat} {A : Option Addr} {cap : Nat} {K0 : List (Nat × Obj)} (h : SGx W K0 w c b size M top gm gw mu n l A cap P) : ∀ K : List (Nat × Obj), (∀ x ∈ K, w.heap[x.1]? = some x.2 ∧ ∃ cs t, x.2 = .cells cs t (0, 0) ∧ OffT t) → SGx W (K ++ K0) w c b size M top gm gw mu n l A cap P
  | [], _ => h
  | x :: K, hK => by
    have h1 := h.holdsK K (fun y hy => hK y (List.mem_cons_of_mem _ hy))
    obtain ⟨hx, cs, t, e, ht⟩ := hK x List.mem_cons_self
    obtain ⟨x1, x2⟩ := x
    simp only at hx e
    subst e
    exact h1.hold hx ht.1 ht.2.1 ht.2.2
theorem SGx.otherK {W w w' : World} {K : List (Nat × Obj)} {c b size M top : Nat} {gm gw : Nat → Nat} {mu n : Nat} {l : List Tl} {A : Option Addr} {cap : Nat} {P : List Pg} (h : SGx W K w c b size M top gm gw mu n l A cap P) {x : Nat} {cs : Array Value} {t : TypeId} (hc : w.heap[x]? = some (.cells cs t (0, 0))) (hx : W.heap.size ≤ x) (hK : ∀ y ∈ K, y.1 ≠ x) (t1 : t ≠ 27) (t2 : t ≠ 140) (t3 : t ≠ 133) (t4 : t ≠ 128) (t5 : t ≠ 118) (hg : w.grownBy w' (some x)) : SGx W K w' c b size M top gm gw mu n l A cap P := by
  have h0 := (h.sub (K' := []) (fun x hx => absurd hx List.not_mem_nil)).other hc hx t1 t2 t3 t4 t5 hg
  exact ⟨h0.bg, h0.row, h0.own, h0.maps, h0.gws, h0.rise, h0.cnew, h0.pnew, h0.sep, fun y hy => (hg.block _ (by
    have := h.kept y hy
    rcases Nat.lt_or_ge y.1 w.heap.size with q | q
    · exact q
    · rw [Array.getElem?_eq_none q] at this; cases this) (fun e => hK y hy (by injection e))).trans (h.kept y hy), h.knc, h.kgw, h.kpg, h.kA⟩
section
variable {W w w' : World} {K : List (Nat × Obj)} {I : List Nat} {c sz M : Nat → Nat} {b top n : Nat} {l : List Tl} {P : Nat → List Pg}
theorem SGF.otherK (h : SGF W K w I c sz M b top n l P) {x : Nat} {cs : Array Value} {t : TypeId} (hc : w.heap[x]? = some (.cells cs t (0, 0))) (hx : W.heap.size ≤ x) (hK : ∀ y ∈ K, y.1 ≠ x) (t1 : t ≠ 27) (t2 : t ≠ 140) (t3 : t ≠ 133) (t4 : t ≠ 128) (t5 : t ≠ 118) (hg : w.grownBy w' (some x)) : SGF W K w' I c sz M b top n l P := by
  obtain ⟨gm, gw, mu, A, cap, h1, h2⟩ := h
  exact ⟨gm, gw, mu, A, cap, fun k hk => (h1 k hk).otherK hc hx hK t1 t2 t3 t4 t5 hg, h2⟩
/-- a cache of the family is used: what is not the caches' stands -/
theorem SGF.use (h : SGF W K w I c sz M b top n l P) {k : Nat} (hk : k ∈ I) : ∃ K', SG W K' w (c k) b (sz k) (M k) top n l (P k) ∧ ∀ w' n' l' P', SG W K' w' (c k) b (sz k) (M k) top n' l' P' → SGF W K w' I c sz M b top n' l' (updF P k P') ∧ Keep w w' := by
  obtain ⟨gm, gw, mu, A, cap, h1, h2⟩ := h
  obtain ⟨K1, a1, a2⟩ := all_blocks w
  have h3 : SGF W (K1 ++ K) w I c sz M b top n l P := ⟨gm, gw, mu, A, cap, fun j hj => (h1 j hj).holdsK K1 a1, h2⟩
  obtain ⟨K', g1, g2⟩ := h3.one hk
  refine ⟨K', g1, fun w' n' l' P' hs => ?_⟩
  have h4 := g2 w' n' l' P' hs
  refine ⟨h4.sub (fun x hx => List.mem_append_right _ hx), fun x cs t hx ht => ?_⟩
  obtain ⟨gm', gw', mu', A', cap', h5, _⟩ := h4
  exact (h5 k hk).kept _ (List.mem_append_left _ (a2 x cs t hx ht))
theorem SGF.kept (h : SGF W K w I c sz M b top n l P) {k : Nat} (hk : k ∈ I) : ∀ x ∈ K, w.heap[x.1]? = some x.2 := by
  obtain ⟨gm, gw, mu, A, cap, h1, h2⟩ := h
  exact (h1 k hk).kept
end
/-- the classes -/
def cls : List Nat := [1, 2, 3, 4, 5, 6, 7]
def szC (k : Nat) : Nat := [0, 64, 128, 256, 32, 32, 48, 256].getD k 0
def mC (k : Nat) : Nat := 960 / szC k
theorem cls_facts : ∀ k ∈ cls, 16 ≤ szC k ∧ szC k ≤ 512 ∧ mC k = 960 / szC k ∧ (szC k : Int).tmod 16 = 0 ∧ 1 ≤ k ∧ k ≤ 7 ∧ 0 < mC k ∧ mC k ≤ 60 := by decide
/-- the pages of the classes: used blocks, none of two classes -/
structure FLay (l : List Tl) (P : Nat → List Pg) : Prop where
  lay : ∀ k ∈ cls, Lay 6 (mC k) l (P k)
  apart : ∀ j ∈ cls, ∀ k ∈ cls, j ≠ k → ∀ p ∈ P j, ∀ q ∈ P k, p.q ≠ q.q
theorem FLay.two {l : List Tl} {P : Nat → List Pg} (h : FLay l P) {j k : Nat} (hj : j ∈ cls) (hk : k ∈ cls) (hne : j ≠ k) : Two 6 (mC j) (mC k) l (P j) (P k) := ⟨h.lay j hj, h.lay k hk, h.apart j hj k hk hne⟩
theorem FLay.of_two {l l' : List Tl} {P : Nat → List Pg} {k : Nat} {P' : List Pg} (h : FLay l P) (hk : k ∈ cls) (hl : Lay 6 (mC k) l' P') (ht : ∀ j ∈ cls, j ≠ k → Two 6 (mC k) (mC j) l' P' (P j)) : FLay l' (updF P k P') := by
  refine ⟨fun j hj => ?_, fun i hi j hj hne => ?_⟩
  · by_cases e : j = k
    · subst e; rw [updF_same]; exact hl
    · rw [updF_other _ _ e]; exact (ht j hj e).two
  · by_cases e : i = k
    · subst e
      have e2 : j ≠ i := fun h => hne h.symm
      rw [updF_same, updF_other _ _ e2]
      exact (ht j hj e2).apart
    · rw [updF_other _ _ e]
      by_cases e2 : j = k
      · subst e2
        rw [updF_same]
        exact fun p hp q hq e3 => (ht i hi e).apart q hq p hp e3.symm
      · rw [updF_other _ _ e2]
        exact h.apart i hi j hj hne
theorem FLay.take {l l' : List Tl} {P : Nat → List Pg} {k : Nat} {P' : List Pg} {at_ er : Int} (h : FLay l P) (hk : k ∈ cls) (ht : TakeS 6 (mC k) (szC k) l (P k) at_ er l' P') (hwf : ∀ p ∈ P k, WF (mC k) p.ws) : FLay l' (updF P k P') :=
  h.of_two hk (ht.lay (h.lay k hk) hwf (cls_facts k hk).2.2.2.2.2.2.1) fun j hj hne => (h.two hk hj (fun e => hne e.symm)).take ht hwf (cls_facts k hk).2.2.2.2.2.2.1
theorem FLay.give {l l' : List Tl} {P : Nat → List Pg} {k : Nat} {P' : List Pg} (h : FLay l P) (hk : k ∈ cls) (hl : Lay 6 (mC k) l' P')
    (hc : (l' = l ∧ P'.map Pg.q = (P k).map Pg.q) ∨ ∃ Pa p Pb, P k = Pa ++ p :: Pb ∧ P' = Pa ++ Pb ∧ ∃ a d, l = a ++ (0, false) :: d ∧ p.q = span a ∧ l' = melt 6 a.reverse 0 d) : FLay l' (updF P k P') :=
  h.of_two hk hl fun j hj hne => (h.two hk hj (fun e => hne e.symm)).give hl hc
end Go.Proofs.YtflkoabgkgegjaaGreatDoor
/- Plain arithmetic and laws of worlds for layer 1, no program in sight: bytes of a word, powers of two, blocks that change. No condition. -/
namespace Go.Proofs.YtflkoabgkgegjaaGreatDoor.Ar
open Go.RowKit

theorem ret_int {k : IntKind} {a b : Int} (h : a = b) : Ending.returned (.int k a) = .returned (.int k b) := by rw [h]

/-- bytes put together, the lowest first -/
def sumB (f : Nat → Nat) (at_ : Nat) : Nat → Nat
  | 0 => 0
  | k + 1 => sumB f at_ k + f (at_ + k) * 256 ^ k
theorem sumB_lt (f : Nat → Nat) (at_ : Nat) (hf : ∀ i, f i < 256) : ∀ k, sumB f at_ k < 256 ^ k
  | 0 => by simp [sumB]
  | k + 1 => by
    have h1 := sumB_lt f at_ hf k
    have h2 : (f (at_ + k) + 1) * 256 ^ k ≤ 256 * 256 ^ k := Nat.mul_le_mul_right _ (by have := hf (at_ + k); omega)
    rw [Nat.add_mul, Nat.one_mul] at h2
    simp only [sumB]
    rw [Nat.pow_succ, Nat.mul_comm (256 ^ k)]
    omega
theorem sumB_congr (f g : Nat → Nat) (at_ : Nat) : ∀ k, (∀ j, j < k → f (at_ + j) = g (at_ + j)) → sumB f at_ k = sumB g at_ k
  | 0, _ => rfl
  | k + 1, h => by simp only [sumB, sumB_congr f g at_ k (fun j hj => h j (by omega)), h k (by omega)]
/-- a word's bytes put together are the word -/
theorem sumB_word (f : Nat → Nat) (at_ x : Nat) (hf : ∀ j, j < 8 → f (at_ + j) = x / 256 ^ j % 256) : ∀ k, k ≤ 8 → sumB f at_ k = x % 256 ^ k
  | 0, _ => by simp [sumB, Nat.mod_one]
  | k + 1, hk => by
    simp only [sumB]
    rw [sumB_word f at_ x hf k (by omega), hf k (by omega), Nat.pow_succ, Nat.mod_mul, Nat.mul_comm (256 ^ k)]

theorem or_join (i x y : Nat) (hx : x < 2 ^ i) (hy : y % 2 ^ i = 0) : x ||| y = x + y := by
  rw [Nat.or_comm, nat_join i y x hy hx, Nat.add_comm]
theorem pow256 (k : Nat) : 256 ^ k = 2 ^ (8 * k) := by
  rw [show (256 : Nat) = 2 ^ 8 by rfl, ← Nat.pow_mul]
/-- a byte more, put on top -/
theorem or_byte (x c k : Nat) (hk : k < 8) (hx : x < 256 ^ k) (hc : c < 256) : bits .or .u64 (x : Int) (IntKind.u64.wrap ((c : Int) * 2 ^ (8 * k))) = ((x + c * 256 ^ k : Nat) : Int) ∧ x + c * 256 ^ k < 18446744073709551616 := by
  have h1 : (c + 1) * 256 ^ k ≤ 256 * 256 ^ k := Nat.mul_le_mul_right _ (by omega)
  rw [Nat.add_mul, Nat.one_mul] at h1
  have h2 : 256 * 256 ^ k ≤ 256 ^ 8 := by
    rw [Nat.mul_comm, ← Nat.pow_succ]
    exact Nat.pow_le_pow_right (by omega) (by omega)
  have h3 : (256 : Nat) ^ 8 = 18446744073709551616 := by decide
  have e0 : (c : Int) * 2 ^ (8 * k) = ((c * 256 ^ k : Nat) : Int) := by rw [pow256]; push_cast; rfl
  have e1 : IntKind.u64.wrap ((c * 256 ^ k : Nat) : Int) = ((c * 256 ^ k : Nat) : Int) := by rw [IntKind.wrap_u64]; omega
  rw [e0, e1, u64_or_nat _ _ (by omega) (by omega), or_join (8 * k) _ _ (by rw [← pow256]; exact hx) (by rw [← pow256]; exact Nat.mul_mod_left _ _)]
  exact ⟨rfl, by omega⟩

theorem setAt {B g i : Nat} {a w : World} (h : Below B a w) (hg : B ≤ g) (v : Value) : Below B a (w.setCell ⟨g, i, none⟩ v) := Below.setCell h hg v

theorem SlR.grown {w w' : World} {A : Option Addr} {xs : List Value} {g : Nat} (h : SlR w A xs) (hg : w.grownBy w' (some g)) (hne : xs ≠ [] → ∀ a, A = some a → a.block ≠ g) : SlR w' A xs := fun hn => by
  obtain ⟨b, off, e, hlt, hc⟩ := h hn
  exact ⟨b, off, e, Nat.lt_of_lt_of_le hlt hg.size, fun j u hu => (grown_cell hg hlt (hne hn _ e)).trans (hc j u hu)⟩
theorem SlR.ne {w : World} {A : Option Addr} {xs : List Value} (h : SlR w A xs) {g : Nat} (hg : w.heap.size ≤ g) : xs ≠ [] → ∀ a, A = some a → a.block ≠ g := fun hne a ha => by
  obtain ⟨b, off, e, hlt, _⟩ := h hne
  rw [ha] at e
  cases e
  show b ≠ g
  omega
def u8s (l : List Nat) : List Value := l.map fun (x : Nat) => .int .u8 (x : Int)
theorem u64s_length (l : List Nat) : (u64s l).length = l.length := by simp [u64s]
theorem u8s_length (l : List Nat) : (u8s l).length = l.length := by simp [u8s]
theorem SlR.word {w : World} {A : Option Addr} {l : List Nat} (h : SlR w A (u64s l)) {k : Nat} (hk : k < l.length) : ∃ b off, A = some ⟨b, off, none⟩ ∧ b < w.heap.size ∧ ∀ j (hj : j < l.length), w.cell? ⟨b, off + j, none⟩ = some (.int .u64 ((l[j] : Nat) : Int)) := by
  obtain ⟨b, off, e, hlt, hc⟩ := h (fun e => by have := u64s_length l; rw [e] at this; simp at this; omega)
  exact ⟨b, off, e, hlt, fun j hj => hc j _ (by simp [u64s, hj])⟩
theorem SlR.byte {w : World} {A : Option Addr} {l : List Nat} (h : SlR w A (u8s l)) {k : Nat} (hk : k < l.length) : ∃ b off, A = some ⟨b, off, none⟩ ∧ b < w.heap.size ∧ ∀ j (hj : j < l.length), w.cell? ⟨b, off + j, none⟩ = some (.int .u8 ((l[j] : Nat) : Int)) := by
  obtain ⟨b, off, e, hlt, hc⟩ := h (fun e => by have := u8s_length l; rw [e] at this; simp at this; omega)
  exact ⟨b, off, e, hlt, fun j hj => hc j _ (by simp [u8s, hj])⟩
theorem SlR_new (w : World) (cs : Array Value) (t : TypeId) : SlR (w.alloc (.cells cs t)) (some ⟨w.heap.size, 0, none⟩) cs.toList := fun _ =>
  ⟨w.heap.size, 0, rfl, by simp, fun j u hu => by
    rw [Nat.zero_add, World.cell?_alloc_new]
    simpa using hu⟩
end Go.Proofs.YtflkoabgkgegjaaGreatDoor.Ar
