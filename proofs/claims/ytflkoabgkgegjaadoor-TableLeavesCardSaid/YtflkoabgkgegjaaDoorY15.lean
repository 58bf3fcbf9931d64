/- The state of a cache over an allocator, with blocks that are held. No condition. And what follows from it. -/
import Derived.Test.YtflkoabgkgegjaaDoorY14
/- The state of a cache over an allocator, with blocks that are held. No condition. -/
namespace Go.Proofs.YtflkoabgkgegjaaDoor
open Go.RowKit Go.Maps

theorem BSt.other {V W w w' : World} {b top : Nat} {gm gw : Nat → Nat} {mu n : Nat} {F : Nat → Nat → Bool} {U : Int → Option Nat} {x : Nat} (h : BSt V W [] w b top gm gw mu n F U) (hg : w.grownBy w' (some x)) (hx : W.heap.size ≤ x) (h1 : x ≠ b) (h2 : ∀ k, k ≤ top → x ≠ gm k) (h3 : ∀ k, k ≤ top → x ≠ gw k) (h4 : x ≠ mu) : BSt w' W [] w' b top gm gw mu n F U := by
  have ne : ∀ {g : Nat}, x ≠ g → some g ≠ some x := fun h e => h (by injection e with e; exact e.symm)
  exact ⟨h.way.trans (grownBy_below hg hx h.way.size), Stay.refl _ _ _ _, h.tle, (hg.block b (blt h.row) (ne h1)).trans h.row, fun k hk => by
    obtain ⟨ws, m, hb⟩ := h.maps k hk
    exact ⟨ws, ⟨(hg.block _ m.lt.1 (ne (h2 k hk))).trans m.1, (hg.block _ m.lt.2 (ne (h3 k hk))).trans m.2.1, m.2.2⟩, hb⟩, h.wnew, h.inj, h.used.grown hg (ne h4), h.unew, fun s hs => absurd hs List.not_mem_nil⟩
theorem BSt.rebase {V W w : World} {S : List (Option Addr × List Value)} {b top : Nat} {gm gw : Nat → Nat} {mu n : Nat} {F : Nat → Nat → Bool} {U : Int → Option Nat} (h : BSt V W S w b top gm gw mu n F U) : BSt w W S w b top gm gw mu n F U :=
  ⟨h.way, Stay.refl _ _ _ _, h.tle, h.row, h.maps, h.wnew, h.inj, h.used, h.unew, h.held⟩
section
variable {V W w w' : World} {b top : Nat} {gm gw : Nat → Nat} {mu n : Nat} {l : List Tl}
theorem BG.rebase {S : List (Option Addr × List Value)} (h : BG V W S w b top gm gw mu n l) : BG w W S w b top gm gw mu n l := by
  obtain ⟨F, U, h1, h2⟩ := h.ex
  exact ⟨⟨F, U, h1.rebase, h2⟩, h.good⟩
theorem BG.stay {S : List (Option Addr × List Value)} (h : BG V W S w b top gm gw mu n l) : Stay V w top gw mu := by
  obtain ⟨F, U, h1, h2⟩ := h.ex
  exact h1.stay
/-- a block that is none of the allocator's: by its type -/
structure NotB (w : World) (top : Nat) (gw : Nat → Nat) (x : Nat) : Prop where
  cells : ∃ cs t, w.heap[x]? = some (.cells cs t (0, 0)) ∧ t ≠ 97 ∧ t ≠ 114
  gw : ∀ k, k ≤ top → x ≠ gw k
theorem BG.other {x : Nat} (h : BG V W [] w b top gm gw mu n l) (hg : w.grownBy w' (some x)) (hx : W.heap.size ≤ x) (hn : NotB w top gw x) : BG w' W [] w' b top gm gw mu n l := by
  obtain ⟨F, U, h1, h2⟩ := h.ex
  obtain ⟨cs, t, hc, t1, t2⟩ := hn.cells
  have key : ∀ (g : Nat) (ds : Array Value) (u : TypeId), w.heap[g]? = some (.cells ds u (0, 0)) → t ≠ u → x ≠ g := fun g ds u hd hu e => by
    subst e
    rw [hc] at hd
    injection hd with hd
    injection hd with _ h
    exact hu h
  refine ⟨⟨F, U, h1.other hg hx (key _ _ _ h1.row t1) (fun k hk => ?_) hn.gw (fun e => ?_), h2⟩, h.good⟩
  · obtain ⟨ws, m, _⟩ := h1.maps k hk
    exact key _ _ _ m.1 t2
  · subst e
    obtain ⟨es, cl, ho⟩ := h1.used.obj
    rw [hc] at ho
    injection ho with ho
    cases ho
theorem BG.u64 (h : BG V W [] w b top gm gw mu n l) {k : Nat} (hk : k ≤ top) : ∃ cs, w.heap[gw k]? = some (.cells cs 31 (0, 0)) := by
  obtain ⟨F, U, h1, h2⟩ := h.ex
  obtain ⟨ws, m, _⟩ := h1.maps k hk
  exact ⟨_, m.2.1⟩
theorem BG.mu_obj (h : BG V W [] w b top gm gw mu n l) : ∃ es cl, w.heap[mu]? = some (.map es cl) := by
  obtain ⟨F, U, h1, h2⟩ := h.ex
  exact h1.used.obj
theorem BG.gw_lt (h : BG V W [] w b top gm gw mu n l) {k : Nat} (hk : k ≤ top) : gw k < w.heap.size := by
  obtain ⟨cs, hc⟩ := h.u64 hk
  exact blt hc
/-- a block of cells of another type than words is none that the allocator turns -/
theorem BG.not_gw (h : BG V W [] w b top gm gw mu n l) {x : Nat} {cs : Array Value} {t : TypeId} (hc : w.heap[x]? = some (.cells cs t (0, 0))) (ht : t ≠ 31) : ∀ k, k ≤ top → x ≠ gw k := fun k hk e => by
  obtain ⟨ds, hd⟩ := h.u64 hk
  rw [← e, hc] at hd
  injection hd with hd
  injection hd with _ h2
  exact ht h2
theorem BG.not_mu (h : BG V W [] w b top gm gw mu n l) {x : Nat} {cs : Array Value} {t : TypeId} (hc : w.heap[x]? = some (.cells cs t (0, 0))) : x ≠ mu := fun e => by
  obtain ⟨es, cl, hd⟩ := h.mu_obj
  rw [← e, hc] at hd
  injection hd with hd
  cases hd
theorem two_types {w : World} {x y : Nat} {cs ds : Array Value} {t u : TypeId} (h1 : w.heap[x]? = some (.cells cs t (0, 0))) (h2 : w.heap[y]? = some (.cells ds u (0, 0))) (hne : t ≠ u) : x ≠ y := fun e => by
  subst e
  rw [h1] at h2
  injection h2 with h2
  injection h2 with _ h3
  exact hne h3
end
/-- a cache over an allocator; K: blocks that are held -/
structure SGx (W : World) (K : List (Nat × Obj)) (w : World) (c b size M top : Nat) (gm gw : Nat → Nat) (mu n : Nat) (l : List Tl) (A : Option Addr) (cap : Nat) (P : List Pg) : Prop where
  bg : BG w W [] w b top gm gw mu n l
  row : w.heap[c]? = some (.cells (cRow b (size : Int) A P.length cap) 102 (0, 0))
  own : w.ownsRow W.heap.size 104 2 (.slice A P.length cap) P.length (pCells P)
  maps : ∀ p ∈ P, MapAt w p.gm p.gw M p.ws
  gws : P.Pairwise fun x y => x.gw ≠ y.gw
  rise : RisesQ P
  cnew : W.heap.size ≤ c
  pnew : ∀ p ∈ P, W.heap.size ≤ p.gw
  sep : ∀ p ∈ P, ∀ k, k ≤ top → p.gw ≠ gw k
  kept : ∀ x ∈ K, w.heap[x.1]? = some x.2
  knc : ∀ x ∈ K, x.1 ≠ c ∧ x.1 ≠ mu
  kgw : ∀ x ∈ K, ∀ k, k ≤ top → x.1 ≠ gw k
  kpg : ∀ x ∈ K, ∀ p ∈ P, x.1 ≠ p.gw
  kA : ∀ x ∈ K, some x.1 ≠ (Value.slice A P.length cap).ownBlock
theorem ownsRow_block {w : World} {base : Nat} {e : TypeId} {size n m cap d : Nat} {A : Option Addr} {xs : List Value} (h : w.ownsRow base e size (.slice A m cap) n xs) {g : Nat} (hg : some g = (Value.slice A m d).ownBlock) : ∃ cs, w.heap[g]? = some (.cells cs e (0, 0)) := by
  rcases h.2 with ⟨hv, _⟩ | ⟨g2, cap2, cur, hv, _, hh, _⟩
  · injection hv with h1 _ _
    subst h1
    cases hg
  · injection hv with h1 _ _
    subst h1
    injection hg with hg
    subst hg
    exact ⟨cur, hh⟩
theorem ownsRow_keep {w w' : World} {base : Nat} {e : TypeId} {size : Nat} {A : Option Addr} {m cap n : Nat} {xs : List Value} (h : w.ownsRow base e size (.slice A m cap) n xs) (hk : ∀ g, some g = (Value.slice A m cap).ownBlock → w'.heap[g]? = w.heap[g]?) : w'.ownsRow base e size (.slice A m cap) n xs := by
  refine ⟨h.1, ?_⟩
  rcases h.2 with h0 | ⟨g, cap2, cur, hv, hg, hh, r⟩
  · exact .inl h0
  · refine .inr ⟨g, cap2, cur, hv, hg, (hk g ?_).trans hh, r⟩
    rw [hv]
    rfl
section
variable {W w w' : World} {K : List (Nat × Obj)} {c b size M top : Nat} {gm gw : Nat → Nat} {mu n : Nat} {l : List Tl} {A : Option Addr} {cap : Nat} {P : List Pg}
theorem SGx.rowne (h : SGx W K w c b size M top gm gw mu n l A cap P) {g : Nat} (hg : some g = (Value.slice A P.length cap).ownBlock) : ∃ cs, w.heap[g]? = some (.cells cs 104 (0, 0)) := ownsRow_block h.own hg
/-- all but the words of the allocator's maps and its used map stands -/
theorem SGx.buddy {n' : Nat} {l' : List Tl} (h : SGx W K w c b size M top gm gw mu n l A cap P) (hb : BG w W [] w' b top gm gw mu n' l') : SGx W K w' c b size M top gm gw mu n' l' A cap P := by
  have hs := hb.stay
  have st : ∀ {x : Nat} {cs : Array Value} {t : TypeId}, w.heap[x]? = some (.cells cs t (0, 0)) → t ≠ 31 → w'.heap[x]? = w.heap[x]? := fun hc ht => hs.block _ (blt hc) (h.bg.not_gw hc ht) (h.bg.not_mu hc)
  refine ⟨hb.rebase, (st h.row (by decide)).trans h.row, ownsRow_keep h.own fun g hg => ?_, fun p hp => ?_, h.gws, h.rise, h.cnew, h.pnew, h.sep, fun x hx => ?_, h.knc, h.kgw, h.kpg, h.kA⟩
  · obtain ⟨cs, hc⟩ := h.rowne hg
    exact st hc (by decide)
  · have m := h.maps p hp
    exact ⟨(st m.1 (by decide)).trans m.1, (hs.block _ m.lt.2 (h.sep p hp) (h.bg.not_mu m.2.1)).trans m.2.1, m.2.2⟩
  · have hk := h.kept x hx
    exact (hs.block _ (blt hk) (h.kgw x hx) (h.knc x hx).2).trans hk
theorem SGx.below (h : SGx W K w c b size M top gm gw mu n l A cap P) (hb : Below w.heap.size w w') : SGx W K w' c b size M top gm gw mu n l A cap P := h.buddy (h.bg.below hb)
theorem SGx.alloc (h : SGx W K w c b size M top gm gw mu n l A cap P) (o : Obj) : SGx W K (w.alloc o) c b size M top gm gw mu n l A cap P := h.below ((Below.refl _ w).alloc (Nat.le_refl _) _)
theorem SGx.sl (h : SGx W K w c b size M top gm gw mu n l A cap P) : SlR w A (pCells P) := ownsRow_sl h.own
theorem SGx.c0 (h : SGx W K w c b size M top gm gw mu n l A cap P) : w.cell? ⟨c, 0, none⟩ = some (.pointer (some ⟨b, 0, none⟩)) := (cell_of_row _ _ _ _ _ _ h.row).trans rfl
theorem SGx.c1 (h : SGx W K w c b size M top gm gw mu n l A cap P) : w.cell? ⟨c, 1, none⟩ = some (.int .i64 (size : Int)) := (cell_of_row _ _ _ _ _ _ h.row).trans rfl
theorem SGx.c2 (h : SGx W K w c b size M top gm gw mu n l A cap P) : w.cell? ⟨c, 2, none⟩ = some (.slice A P.length cap) := (cell_of_row _ _ _ _ _ _ h.row).trans rfl
theorem SGx.clt (h : SGx W K w c b size M top gm gw mu n l A cap P) : c < w.heap.size := blt h.row
theorem SGx.row_grown (h : SGx W K w c b size M top gm gw mu n l A cap P) (hg : w.grownBy w' (Value.slice A P.length cap).ownBlock) : w'.heap[c]? = some (.cells (cRow b (size : Int) A P.length cap) 102 (0, 0)) :=
  (hg.block _ h.clt (fun e => by
    obtain ⟨ds, hd⟩ := h.rowne e
    exact two_types h.row hd (by decide) rfl)).trans h.row
theorem pair_mid {α : Type} {R : α → α → Prop} {a : List α} {x y : α} {b : List α} (h : (a ++ x :: b).Pairwise R) (h1 : ∀ z ∈ a, R z x → R z y) (h2 : ∀ z ∈ b, R x z → R y z) : (a ++ y :: b).Pairwise R := by
  rw [List.pairwise_append] at h ⊢
  obtain ⟨ha, hb, hab⟩ := h
  rw [List.pairwise_cons] at hb ⊢
  refine ⟨ha, ⟨fun z hz => h2 z hz (hb.1 z hz), hb.2⟩, fun z hz u hu => ?_⟩
  rcases List.mem_cons.1 hu with rfl | hu
  · exact h1 z hz (hab z hz x List.mem_cons_self)
  · exact hab z hz u (List.mem_cons_of_mem _ hu)
/-- a slab's map turns -/
theorem SGx.set {P1 P2 : List Pg} {p : Pg} {ws : List Nat} (h : SGx W K w c b size M top gm gw mu n l A cap P) (hP : P = P1 ++ p :: P2) (hg : w.grownBy w' (some p.gw)) (hm : MapAt w' p.gm p.gw M ws) : SGx W K w' c b size M top gm gw mu n l A cap (P1 ++ { p with ws := ws } :: P2) := by
  have hp : p ∈ P := by rw [hP]; simp
  have m0 := h.maps p hp
  have hlen : (P1 ++ { p with ws := ws } :: P2).length = P.length := by rw [hP]; simp
  have hpc : pCells (P1 ++ { p with ws := ws } :: P2) = pCells P := by rw [hP]; simp [pCells]
  have mem : ∀ q ∈ P1 ++ { p with ws := ws } :: P2, ∃ q' ∈ P, q.gw = q'.gw ∧ q.gm = q'.gm := fun q hq => by
    rw [hP]
    rcases List.mem_append.1 hq with hq | hq
    · exact ⟨q, by simp [hq], rfl, rfl⟩
    · rcases List.mem_cons.1 hq with rfl | hq
      · exact ⟨p, by simp, rfl, rfl⟩
      · exact ⟨q, by simp [hq], rfl, rfl⟩
  have nb : NotB w top gw p.gw := ⟨⟨_, _, m0.2.1, by decide, by decide⟩, h.sep p hp⟩
  have st : ∀ {x : Nat} {cs : Array Value} {t : TypeId}, w.heap[x]? = some (.cells cs t (0, 0)) → t ≠ 31 → w'.heap[x]? = w.heap[x]? := fun hc ht => hg.block _ (blt hc) (fun e => two_types hc m0.2.1 ht (by injection e))
  have hgw := h.gws
  rw [hP, List.pairwise_append, List.pairwise_cons] at hgw
  have other : ∀ q, q ∈ P1 ∨ q ∈ P2 → MapAt w' q.gm q.gw M q.ws := fun q hq => by
    have hne : q.gw ≠ p.gw := by
      rcases hq with hq | hq
      · exact hgw.2.2 q hq p List.mem_cons_self
      · exact (hgw.2.1.1 q hq).symm
    have m := h.maps q (by rw [hP]; rcases hq with hq | hq <;> simp [hq])
    exact ⟨(st m.1 (by decide)).trans m.1, (hg.block _ m.lt.2 (fun e => hne (by injection e))).trans m.2.1, m.2.2⟩
  refine ⟨h.bg.other hg (h.pnew p hp) nb, ?_, ?_, fun q hq => ?_, ?_, ?_, h.cnew, fun q hq => ?_, fun q hq => ?_, fun x hx => ?_, h.knc, h.kgw, fun x hx q hq => ?_, fun x hx => ?_⟩
  · rw [hlen]; exact (st h.row (by decide)).trans h.row
  · rw [hlen, hpc]
    exact ownsRow_keep h.own fun g hg2 => by
      obtain ⟨cs, hc⟩ := h.rowne hg2
      exact st hc (by decide)
  · rcases List.mem_append.1 hq with hq | hq
    · exact other q (.inl hq)
    · rcases List.mem_cons.1 hq with rfl | hq
      · exact hm
      · exact other q (.inr hq)
  · have := h.gws
    rw [hP] at this
    exact pair_mid this (fun z _ hz => hz) (fun z _ hz => hz)
  · have := h.rise
    rw [hP] at this
    exact pair_mid this (fun z _ hz => hz) (fun z _ hz => hz)
  · obtain ⟨q', hq', e, _⟩ := mem q hq
    rw [e]; exact h.pnew q' hq'
  · obtain ⟨q', hq', e, _⟩ := mem q hq
    rw [e]; exact h.sep q' hq'
  · have hk := h.kept x hx
    exact (hg.block _ (blt hk) (fun e => h.kpg x hx p hp (by injection e))).trans hk
  · obtain ⟨q', hq', e, _⟩ := mem q hq
    rw [e]; exact h.kpg x hx q' hq'
  · rw [hlen]; exact h.kA x hx
/-- the row of slabs is laid anew, the cache's cell turns -/
theorem SGx.lay {P' : List Pg} {A' : Option Addr} {cap' : Nat} (h : SGx W K w c b size M top gm gw mu n l A cap P) (hg : w.grownBy w' (Value.slice A P.length cap).ownBlock) (ho : w'.ownsRow W.heap.size 104 2 (.slice A' P'.length cap') P'.length (pCells P'))
    (hA' : ∀ g, some g = (Value.slice A' P'.length cap').ownBlock → some g = (Value.slice A P.length cap).ownBlock ∨ w.heap.size ≤ g)
    (hm : ∀ p ∈ P', MapAt w p.gm p.gw M p.ws) (hgws : P'.Pairwise fun x y => x.gw ≠ y.gw) (hri : RisesQ P') (hpn : ∀ p ∈ P', W.heap.size ≤ p.gw) (hsep : ∀ p ∈ P', ∀ k, k ≤ top → p.gw ≠ gw k) (hk : ∀ x ∈ K, ∀ p ∈ P', x.1 ≠ p.gw) :
    SGx W K (w'.setCell ⟨c, 2, none⟩ (.slice A' P'.length cap')) c b size M top gm gw mu n l A' cap' P' := by
  have st : ∀ {x : Nat} {cs : Array Value} {t : TypeId}, w.heap[x]? = some (.cells cs t (0, 0)) → t ≠ 104 → w'.heap[x]? = w.heap[x]? := fun {x cs t} hc ht => hg.block _ (blt hc) (fun e => by
    obtain ⟨ds, hd⟩ := h.rowne e
    exact two_types hc hd ht rfl)
  have hrow : w'.heap[c]? = some (.cells (cRow b (size : Int) A P.length cap) 102 (0, 0)) := (st h.row (by decide)).trans h.row
  have hg2 : w'.grownBy (w'.setCell ⟨c, 2, none⟩ (.slice A' P'.length cap')) (some c) := gb_set (World.grownBy.refl _ _) _ _
  have st2 : ∀ {x : Nat} {o : Obj}, w'.heap[x]? = some o → x ≠ c → (w'.setCell ⟨c, 2, none⟩ (.slice A' P'.length cap')).heap[x]? = some o := fun hc hne => (hg2.block _ (blt hc) (fun e => hne (by injection e))).trans hc
  have bg1 : BG w' W [] w' b top gm gw mu n l := by
    cases e : (Value.slice A P.length cap).ownBlock with
    | none =>
      rw [e] at hg
      have hb : Below w.heap.size w w' := (Below.refl _ w).grown hg (Nat.le_refl _) (fun k hk => by cases hk)
      exact (h.bg.below hb).rebase
    | some g =>
      obtain ⟨cs, hc⟩ := h.rowne e.symm
      rw [e] at hg
      refine h.bg.other hg ?_ ⟨⟨cs, _, hc, by decide, by decide⟩, h.bg.not_gw hc (by decide)⟩
      exact (h.own.lt g e).1
  have nbc : NotB w' top gw c := ⟨⟨_, _, hrow, by decide, by decide⟩, bg1.not_gw hrow (by decide)⟩
  refine ⟨bg1.other hg2 h.cnew nbc, ?_, ?_, fun p hp => ?_, hgws, hri, h.cnew, hpn, hsep, fun x hx => ?_, h.knc, h.kgw, hk, fun x hx e => ?_⟩
  · rw [heap_setCell_same w' c 2 _ _ _ hrow]
    rfl
  · exact ownsRow_keep ho fun g hg3 => by
      obtain ⟨cs, hc⟩ := ownsRow_block ho hg3
      exact (st2 hc (two_types hc hrow (by decide))).trans hc.symm
  · have m := hm p hp
    have k1 := (st m.1 (by decide)).trans m.1
    have k2 := (st m.2.1 (by decide)).trans m.2.1
    exact ⟨st2 k1 (two_types k1 hrow (by decide)), st2 k2 (two_types k2 hrow (by decide)), m.2.2⟩
  · have hk := h.kept x hx
    exact st2 ((hg.block _ (blt hk) (h.kA x hx)).trans hk) (h.knc x hx).1
  · rcases hA' _ e with h1 | h1
    · exact h.kA x hx h1
    · have := blt (h.kept x hx)
      omega
end
end Go.Proofs.YtflkoabgkgegjaaDoor
/- Take of a cache: a free place of a slab that is there. Condition: the cache's state. -/
namespace Go.Proofs.YtflkoabgkgegjaaDoor
open Go.RowKit Go.Maps
variable {W w w' : World} {K : List (Nat × Obj)} {c b size M top : Nat} {gm gw : Nat → Nat} {mu n : Nat} {l : List Tl} {A : Option Addr} {cap : Nat} {P : List Pg}

def FullP (M : Nat) (p : Pg) : Prop := ∀ i, i < M → bitW p.ws i = true
theorem FullP.first {M : Nat} {p : Pg} (h : FullP M p) : FirstS false M p.ws 0 (-1) := by
  refine .inl ⟨rfl, fun j _ hj => ?_⟩
  rw [h j hj]
  decide
set_option maxRecDepth 100000 in
set_option maxHeartbeats 1600000 in
theorem take_old (h : SGx W K w c b size M top gm gw mu n l A cap P) (hT : TabZ W) (P1 P2 : List Pg) (p : Pg) (hP : P = P1 ++ p :: P2) (h1 : ∀ x ∈ P1, FullP M x) (i : Nat) (hi : FirstS false M p.ws 0 (i : Int)) (him : i < M) (hs : size ≤ 512) (hM : M ≤ 60) (hq : ∀ x ∈ P, x.q < 1048576) (hl : P.length ≤ 1048576) (R : Int) (hR : R = ((1024 * p.q + 64 + i * size : Nat) : Int)) (ws' : List Nat) (hws : ws' = setL true M p.ws [(i : Int)]) :
    Calls Tryd.prog 27 #[.pointer (some ⟨c, 0, none⟩)] w fun e w' => e = .returned (.tuple #[.int .i64 R, .int .i64 0]) ∧ SGx W K w' c b size M top gm gw mu n l A cap (P1 ++ { p with ws := ws' } :: P2) := by
  have H := Lib.hid h
  have HT := Lib.hid hT
  have HP := Lib.hid hP
  have HF := Lib.hid h1
  have HI := Lib.hid hi
  have HQ := Lib.hid hq
  have HR := Lib.hid hR
  have HW := Lib.hid hws
  have HS : Hid (size ≤ 512 ∧ M ≤ 60 ∧ i < M ∧ P.length ≤ 1048576) := Lib.hid ⟨hs, hM, him, hl⟩
  have c2 := h.c2
  obtain ⟨m, hm⟩ : ∃ m, P.length = m := ⟨_, rfl⟩
  rw [hm] at c2
  have HN := Lib.hid hm
  clear h hT hP h1 hi hq hR hws hs hM him hl hm
  go_enter Tryd.func27, Tryd.ntmps27
  go_wp2_with fail
  go_loopw [19] (fun x wr => ∃ k : Nat, x = .int .i64 (k : Int) ∧ k ≤ P1.length ∧ Below w.heap.size w wr) (fun x _ => m - (intOf x).toNat)
  case atStart => exact ⟨0, rfl, Nat.zero_le _, Below.refl _ _⟩
  case round =>
    obtain ⟨k, rfl, hk, hwr⟩ := hrel
    have hkl : k < P.length := by have := HP.out; rw [this]; simp; omega
    have hkm : k < m := by have := HN.out; omega
    have Hwr := Lib.hid (H.out.below hwr)
    have HWR := Lib.hid hwr
    obtain ⟨g, off, hA, hg, d0, d1⟩ := Hwr.out.sl.pg hkl
    have hmem : P[k] ∈ P := List.getElem_mem _
    have mk := Hwr.out.maps _ hmem
    obtain ⟨y, hy⟩ : ∃ y, P[k] = y := ⟨_, rfl⟩
    rw [hy] at d0 d1 mk
    have HK : Hid (P[k]? = some y) := Lib.hid (by rw [List.getElem?_eq_getElem hkl, hy])
    obtain ⟨Y, hY⟩ : ∃ Y : Int, ((1024 * y.q : Nat) : Int) = Y := ⟨_, rfl⟩
    rw [hY] at d1
    subst hA
    have i1 : (k : Int) < (m : Int) := by omega
    have i0 : (0 : Int) ≤ (k : Int) := by omega
    have zk : IntKind.i64.wrap ((k : Int) + 1) = (k : Int) + 1 := by rw [IntKind.wrap_i64]; have := HS.out; omega
    go_wp2_with fail
    have h2 := Hwr.out.alloc (.cells #[.pointer (some ⟨y.gm, 0, none⟩), .int .i64 Y] 104)
    have b2 : Below wr.heap.size wr (wr.alloc (.cells #[.pointer (some ⟨y.gm, 0, none⟩), .int .i64 Y] 104)) := (Below.refl _ wr).alloc (Nat.le_refl _) _
    have f0 := cell_of_row _ _ 0 _ _ _ (heap_alloc_new wr (.cells #[.pointer (some ⟨y.gm, 0, none⟩), .int .i64 Y] 104))
    have f1 := cell_of_row _ _ 1 _ _ _ (heap_alloc_new wr (.cells #[.pointer (some ⟨y.gm, 0, none⟩), .int .i64 Y] 104))
    obtain ⟨z, hz⟩ : ∃ z, wr.heap.size = z := ⟨_, rfl⟩
    rw [hz] at f0 f1 b2
    rw [hz]
    have hz2 : z < (wr.alloc (.cells #[.pointer (some ⟨y.gm, 0, none⟩), .int .i64 Y] 104)).heap.size := by rw [World.size_alloc]; omega
    have mk2 := mk.below ((Below.refl _ wr).alloc (Nat.le_refl _) (.cells #[.pointer (some ⟨y.gm, 0, none⟩), .int .i64 Y] 104))
    have HZ : Hid (y.gw ≠ z) := Lib.hid (by have := mk.lt.2; omega)
    generalize hw2 : wr.alloc (.cells #[.pointer (some ⟨y.gm, 0, none⟩), .int .i64 Y] 104) = w2 at h2 b2 f0 f1 hz2 mk2 ⊢
    have HB2 : Hid (Below w.heap.size w w2) := Lib.hid (HWR.out.trans (b2.mono (by rw [← hz]; exact HWR.out.size)))
    have T2 : Hid (TabZ w2) := Lib.hid (HT.out.below HT.out.lt h2.bg.way)
    have H2 := Lib.hid h2
    have MK2 := Lib.hid mk2
    have HZ2 := Lib.hid hz2
    have HYY := Lib.hid hY
    clear hw2 h2 b2 hz2 mk2 mk hwr Hwr HWR d0 d1 hY hmem hz hy hkl
    by_cases q : k < P1.length
    · have hfull : FullP M y := HF.out y (by
        have e := HK.out
        rw [HP.out, List.getElem?_append_left q] at e
        exact List.mem_of_getElem? e)
      have HFU := Lib.hid hfull.first
      clear hfull
      refine (first_lit false w2 y.gm y.gw M y.ws 0 0 (-1) rfl HFU.out (by omega) MK2.out T2.out).mono ?_
      rintro e w' ⟨rfl, rfl⟩
      go_wp2
      go_roundw
      case rel => exact ⟨k + 1, by go_num, by omega, HB2.out⟩
      case measure => (try simp [intOf]) <;> omega
    · have ek : k = P1.length := by omega
      have ey : y = p := by
        have e := HK.out
        rw [HP.out, ek, List.getElem?_append_right (Nat.le_refl _), Nat.sub_self] at e
        simpa using e.symm
      subst ey
      obtain ⟨I, hI⟩ : ∃ I : Int, (i : Int) = I := ⟨_, rfl⟩
      have HII := Lib.hid hI
      have HI2 : Hid (FirstS false M y.ws 0 I) := Lib.hid (by rw [← hI]; exact HI.out)
      have p0 : decide ((0 : Int) ≤ I) = true := decide_eq_true (by omega)
      clear hI
      refine (first_lit false w2 y.gm y.gw M y.ws 0 0 I rfl HI2.out (by omega) MK2.out T2.out).mono ?_
      rintro e w' ⟨rfl, hw⟩
      have hw2 := hw.symm
      clear hw
      subst hw2
      go_wp2_with fail
      have h3 := H2.out.alloc (.cells #[.int .i64 I] 3)
      have b3 : Below w2.heap.size w2 (w2.alloc (.cells #[.int .i64 I] 3)) := (Below.refl _ w2).alloc (Nat.le_refl _) _
      have s3 : SlR (w2.alloc (.cells #[.int .i64 I] 3)) (some ⟨w2.heap.size, 0, none⟩) (i64s [I]) := SlR_new _ _ _
      have f03 := (b3.cell (p := ⟨z, 0, none⟩) HZ2.out).trans f0
      have f13 := (b3.cell (p := ⟨z, 1, none⟩) HZ2.out).trans f1
      have mk3 := MK2.out.below b3
      have hne : w2.heap.size ≠ y.gw := by have := MK2.out.lt.2; omega
      have hz3 : z < (w2.alloc (.cells #[.int .i64 I] 3)).heap.size := Nat.lt_of_lt_of_le HZ2.out b3.size
      generalize hw3 : w2.alloc (.cells #[.int .i64 I] 3) = w3 at h3 b3 s3 f03 f13 mk3 hz3 ⊢
      refine (set_lit true [I] 1 rfl (some ⟨w2.heap.size, 0, none⟩) 1 w3 y.gm y.gw M y.ws ws' _ (by rw [HW.out, HII.out]) rfl mk3 s3 (fun _ a ea => by injection ea with ea; subst ea; exact hne) (by omega)).mono ?_
      rintro e w4 ⟨rfl, m4, g4⟩
      have h4 := h3.set HP.out g4 m4
      have f04 := (grown_cell (o := 0) g4 hz3 (Ne.symm HZ.out)).trans f03
      have f14 := (grown_cell (o := 1) g4 hz3 (Ne.symm HZ.out)).trans f13
      have H4 := Lib.hid h4
      clear hw3 h3 b3 s3 f03 f13 mk3 hne hz3 m4 g4 h4 f0 f1
      go_wp2_with fail
      refine (place_any c size (1024 * y.q) i _ rfl w4 HS.out.1 (by have := HS.out; omega) (by have := HQ.out y (by rw [HP.out]; simp); omega) I R HII.out.symm Y HYY.out.symm HR.out H4.out.c1 H4.out.clt).mono ?_
      rintro e w5 ⟨rfl, h5⟩
      have H5 := Lib.hid (H4.out.below h5)
      clear h5
      go_wp2
      go_ret2
      exact ⟨rfl, H5.out⟩
end Go.Proofs.YtflkoabgkgegjaaDoor
