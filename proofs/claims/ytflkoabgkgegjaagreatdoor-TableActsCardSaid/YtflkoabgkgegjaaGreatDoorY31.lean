/- The plain law: what the reference does is what the program does. No condition. And what follows from it. -/
import Derived.Test.YtflkoabgkgegjaaGreatDoorY30
import Derived.Test.YtflkoabgkgegjaaGreatDoorY22
/- The plain law: what the reference does is what the program does. No condition. -/
namespace Go.Proofs.YtflkoabgkgegjaaGreatDoor

theorem sorted_eq : ∀ {L M : List Int}, L.Pairwise (· < ·) → M.Pairwise (· < ·) → (∀ x, x ∈ L ↔ x ∈ M) → L = M
  | [], [], _, _, _ => rfl
  | [], y :: M, _, _, h => absurd ((h y).2 List.mem_cons_self) List.not_mem_nil
  | x :: L, [], _, _, h => absurd ((h x).1 List.mem_cons_self) List.not_mem_nil
  | x :: L, y :: M, hl, hm, h => by
    obtain ⟨l1, l2⟩ := List.pairwise_cons.1 hl
    obtain ⟨m1, m2⟩ := List.pairwise_cons.1 hm
    have e : x = y := by
      rcases List.mem_cons.1 ((h x).1 List.mem_cons_self) with e | e
      · exact e
      · rcases List.mem_cons.1 ((h y).2 List.mem_cons_self) with e2 | e2
        · exact e2.symm
        · have := m1 x e
          have := l1 y e2
          omega
    subst e
    rw [sorted_eq l2 m2 fun z => ?_]
    have hz := h z
    rw [List.mem_cons, List.mem_cons] at hz
    constructor
    · intro q
      rcases hz.1 (.inr q) with e | e
      · have := l1 z q
        omega
      · exact e
    · intro q
      rcases hz.2 (.inr q) with e | e
      · have := m1 z q
        omega
      · exact e
theorem PutI.mem {L L' : List Int} {x : Int} (h : PutI L x L') (y : Int) : y ∈ L' ↔ y ∈ L ∨ y = x := by
  obtain ⟨k, hk, rfl, _⟩ := h
  conv => rhs; rw [← List.take_append_drop k L]
  simp only [List.mem_append, List.mem_cons]
  constructor
  · rintro (h | h | h)
    · exact .inl (.inl h)
    · exact .inr h
    · exact .inl (.inr h)
  · rintro ((h | h) | h)
    · exact .inl h
    · exact .inr (.inr h)
    · exact .inr (.inl h)
theorem PutI.sorted {L L' : List Int} {x : Int} (h : PutI L x L') (hs : L.Pairwise (· < ·)) (hx : x ∉ L) : L'.Pairwise (· < ·) := by
  obtain ⟨k, hk, rfl, h1, h2⟩ := h
  have ha := hs
  rw [← List.take_append_drop k L, List.pairwise_append] at ha
  have lo : ∀ y ∈ L.take k, y < x := fun y hy => by
    obtain ⟨j, hj, rfl⟩ := List.getElem_of_mem hy
    rw [List.length_take] at hj
    rw [List.getElem_take]
    rcases h2 with h2 | ⟨h3, h2⟩
    · omega
    · have hne : L[j] ≠ x := fun e => hx (by rw [← e]; exact List.getElem_mem _)
      by_cases e : j = k - 1
      · subst e; omega
      · have := List.pairwise_iff_getElem.1 hs j (k - 1) (by omega) h3 (by omega)
        omega
  have hi : ∀ y ∈ L.drop k, x < y := fun y hy => by
    obtain ⟨j, hj, rfl⟩ := List.getElem_of_mem hy
    rw [List.length_drop] at hj
    rw [List.getElem_drop]
    exact h1 (k + j) (by omega) (by omega)
  rw [List.pairwise_append]
  refine ⟨ha.1, List.pairwise_cons.2 ⟨hi, ha.2.1⟩, fun a h3 b h4 => ?_⟩
  rcases List.mem_cons.1 h4 with rfl | h4
  · exact lo a h3
  · exact ha.2.2 a h3 b h4
theorem cutL_mem {L : List Int} {x y : Int} : y ∈ cutL L x ↔ y ∈ L ∧ y ≠ x := by
  unfold cutL
  rw [List.mem_filter, decide_eq_true_iff]
theorem cutL_sorted {L : List Int} {x : Int} (h : L.Pairwise (· < ·)) : (cutL L x).Pairwise (· < ·) := h.filter _
section
variable {top M size : Nat} {l : List Tl} {P : List Pg}
theorem slabsC_rise (h : RisesQ P) : (slabsC P).Pairwise (· < ·) := by
  unfold slabsC
  rw [List.pairwise_map]
  exact List.Pairwise.imp (fun {x y} q => by omega) h
theorem mem_slabsC {y : Int} : y ∈ slabsC P ↔ ∃ p ∈ P, y = ((1024 * p.q : Nat) : Int) := by
  unfold slabsC
  rw [List.mem_map]
  exact ⟨fun ⟨p, h1, h2⟩ => ⟨p, h1, h2.symm⟩, fun ⟨p, h1, h2⟩ => ⟨p, h1, h2.symm⟩⟩
theorem place_one (hM : M = 960 / size) (hs : 0 < size) {q1 q2 i1 i2 : Nat} (h1 : i1 < M) (h2 : i2 < M) (e : ((1024 * q1 + 64 + i1 * size : Nat) : Int) = ((1024 * q2 + 64 + i2 * size : Nat) : Int)) : q1 = q2 ∧ i1 = i2 := by
  have e1 := place_mod (q := q1) hM hs h1
  have e2 := place_mod (q := q2) hM hs h2
  have e3 : 1024 * q1 + 64 + i1 * size = 1024 * q2 + 64 + i2 * size := by omega
  rw [e3] at e1
  have e4 : 64 + i1 * size = 64 + i2 * size := e1.2.1.symm.trans e2.2.1
  have e5 := e1.2.2.2
  rw [e4] at e5
  exact ⟨e1.1.symm.trans e2.1, e5.symm.trans e2.2.2.2⟩
theorem slab_at {i : Nat} (hi : i < (slabsC P).length) : (slabsC P)[i] = ((1024 * (P[i]'(by rw [slabsC_length] at hi; exact hi)).q : Nat) : Int) := by simp [slabsC]
theorem slab_place {q k : Nat} : ((1024 * q : Nat) : Int) + 64 + ((k * size : Nat) : Int) = ((1024 * q + 64 + k * size : Nat) : Int) := by omega
/-- a place of a page is used just if its bit is -/
theorem used_at (hr : RisesQ P) (hM : M = 960 / size) (hs : 0 < size) {p : Pg} (hp : p ∈ P) {k : Nat} (hk : k < M) : ((1024 * p.q : Nat) : Int) + 64 + ((k * size : Nat) : Int) ∈ usedC M size P ↔ bitW p.ws k = true := by
  rw [slab_place, mem_usedC]
  constructor
  · rintro ⟨x, hx, j, hj, hb, e⟩
    obtain ⟨e1, e2⟩ := place_one hM hs hk hj e
    subst e2
    rw [page_one hr hp hx e1]
    exact hb
  · exact fun hb => ⟨p, hp, k, hk, hb, rfl⟩
theorem take_join {x e at_ er : Int} {lp lr : List Tl} {P' : List Pg} {SL' UL' : List Int} (hS : TakeS top M size l P x e lp P') (hl : Lay top M l P) (hr : RisesQ P) (hr' : RisesQ P') (hwf : ∀ p ∈ P, WF M p.ws) (hM : M = 960 / size) (hs : 0 < size) (h0 : 0 < M)
    (hR : RTk top M size l (slabsC P) (usedC M size P) at_ er lr SL' UL') : at_ = x ∧ er = e ∧ lr = lp ∧ SL' = slabsC P' ∧ UL' = usedC M size P' := by
  have husort := usedC_rise hr hM hs
  have husort' := usedC_rise hr' hM hs
  have hu := hS.used hl hr hwf hM hs h0
  have put_eq : ∀ {y : Int} {L : List Int}, y = x → PutI (usedC M size P) y L → y ∉ usedC M size P → (∀ z, z ∈ usedC M size P' ↔ z ∈ usedC M size P ∨ z = x) → L = usedC M size P' := fun {y L} ey hp hn hm => by
    subst ey
    exact sorted_eq (hp.sorted husort hn) husort' fun z => by rw [hp.mem, hm]
  -- every place of every page is used: none is free
  have full : (∀ p ∈ P, FullP M p) → ∀ i (hi : i < (slabsC P).length) k, k < M → (slabsC P)[i] + 64 + ((k * size : Nat) : Int) ∈ usedC M size P := fun hf i hi k hk => by
    rw [slab_at hi]
    exact (used_at hr hM hs (List.getElem_mem _) hk).2 (hf _ (List.getElem_mem _) k hk)
  cases hS with
  | old P1 P2 p j hP hf hj hjm =>
    have hpl : P1.length < P.length := by rw [hP]; simp
    have hsl : P1.length < (slabsC P).length := by rw [slabsC_length]; exact hpl
    have hpg : P[P1.length] = p := by simp [hP]
    have hpm : p ∈ P := by rw [hP]; simp
    obtain ⟨hfree, hlo⟩ : bitW p.ws j = false ∧ ∀ i, i < j → bitW p.ws i = true := by
      rcases hj with ⟨h1, _⟩ | ⟨k, h1, _, _, h2, h3⟩
      · omega
      · have : k = j := by omega
        subst this
        exact ⟨h2, fun i hi => by simpa using h3 i (Nat.zero_le _) hi⟩
    have hno : (slabsC P)[P1.length] + 64 + ((j * size : Nat) : Int) ∉ usedC M size P := by
      rw [slab_at hsl, hpg, used_at hr hM hs hpm hjm, hfree]
      decide
    have hall : ∀ i' k' (hi' : i' < (slabsC P).length), k' < M → (i' < P1.length ∨ i' = P1.length ∧ k' < j) → (slabsC P)[i'] + 64 + ((k' * size : Nat) : Int) ∈ usedC M size P := fun i' k' hi' hk' hc => by
      rw [slab_at hi', used_at hr hM hs (List.getElem_mem _) hk']
      rcases hc with hc | ⟨rfl, hc⟩
      · refine hf _ ?_ k' hk'
        have : P[i']'(by omega) = P1[i'] := by simp [hP, List.getElem_append_left hc]
        rw [this]
        exact List.getElem_mem _
      · rw [hpg]
        exact hlo k' hc
    rcases hu with ⟨h1, _⟩ | ⟨_, hxn, hm⟩
    · omega
    cases hR with
    | old i k hi hk hno2 hall2 UL' hp =>
      have hik : i = P1.length ∧ k = j := by
        rcases Nat.lt_trichotomy i P1.length with q | q | q
        · exact absurd (hall i k hi hk (.inl q)) hno2
        · rcases Nat.lt_trichotomy k j with q2 | q2 | q2
          · exact absurd (hall i k hi hk (.inr ⟨q, q2⟩)) hno2
          · exact ⟨q, q2⟩
          · exact absurd (hall2 P1.length j hsl hjm (.inr ⟨q.symm, q2⟩)) hno
        · exact absurd (hall2 P1.length j hsl hjm (.inl q)) hno
      obtain ⟨rfl, rfl⟩ := hik
      have ex : (slabsC P)[P1.length] + 64 + ((k * size : Nat) : Int) = ((1024 * p.q + 64 + k * size : Nat) : Int) := by
        rw [slab_at hsl, hpg, slab_place]
      refine ⟨ex, rfl, rfl, ?_, put_eq ex hp hno2 hm⟩
      rw [hP]
      simp [slabsC]
    | none hall2 => exact absurd (hall2 P1.length j hsl hjm) hno
    | new hall2 => exact absurd (hall2 P1.length j hsl hjm) hno
  | none hf hc =>
    have hall := full hf
    cases hR with
    | old i k hi hk hno2 => exact absurd (hall i hi k hk) hno2
    | none hall2 at2 er2 _ hne hc2 =>
      rw [hc] at hc2
      injection hc2 with t1 t2
      injection t2 with t2 t3
      exact ⟨rfl, rfl, t3.symm, rfl, rfl⟩
    | new hall2 at2 _ hc2 =>
      rw [hc] at hc2
      injection hc2 with t1 t2
      injection t2 with t2 t3
      cases t2
  | new hf q k a d hld hq hc i hi hpo p hp hw =>
    have hall := full hf
    rcases hu with ⟨h1, _⟩ | ⟨_, hxn, hm⟩
    · cases h1
    cases hR with
    | old i k hi hk hno2 => exact absurd (hall i hi k hk) hno2
    | none hall2 at2 er2 _ hne hc2 =>
      rw [hc] at hc2
      injection hc2 with t1 t2
      injection t2 with t2 t3
      exact absurd t2.symm hne
    | new hall2 at2 _ hc2 _ _ hp1 hp2 =>
      rw [hc] at hc2
      injection hc2 with t1 t2
      injection t2 with t2 t3
      subst t1
      have ex : ((1024 * q : Nat) : Int) + 64 = ((1024 * q + 64 : Nat) : Int) := by omega
      refine ⟨ex, rfl, t3.symm, ?_, put_eq ex hp2 (by rw [ex]; exact hxn) hm⟩
      have hqn : ((1024 * q : Nat) : Int) ∉ slabsC P := fun hc => by
        obtain ⟨y, hy, e⟩ := mem_slabsC.1 hc
        have : y.q ≠ q := by rw [hq]; exact free_not_used hld (hl.mem y hy)
        omega
      refine sorted_eq (hp1.sorted (slabsC_rise hr) hqn) (slabsC_rise hr') fun z => ?_
      rw [hp1.mem, mem_slabsC, mem_slabsC]
      constructor
      · rintro (⟨y, hy, rfl⟩ | rfl)
        · rw [← List.take_append_drop i P] at hy
          rcases List.mem_append.1 hy with h1 | h1
          · exact ⟨y, List.mem_append_left _ h1, rfl⟩
          · exact ⟨y, List.mem_append_right _ (List.mem_cons_of_mem _ h1), rfl⟩
        · exact ⟨p, List.mem_append_right _ List.mem_cons_self, by rw [hp]⟩
      · rintro ⟨y, hy, rfl⟩
        rcases List.mem_append.1 hy with h1 | h1
        · exact .inl ⟨y, List.mem_of_mem_take h1, rfl⟩
        · rcases List.mem_cons.1 h1 with rfl | h1
          · exact .inr (by rw [hp])
          · exact .inl ⟨y, List.mem_of_mem_drop h1, rfl⟩
theorem give_join {X er : Int} {l' lr : List Tl} {P' : List Pg} {SL' UL' : List Int} (hl : Lay top M l P) (hl' : Lay top M l' P') (hr : RisesQ P) (hr' : RisesQ P') (hM : M = 960 / size) (hs : 0 < size) (hX : X ∈ usedC M size P)
    (hu : ∀ y, y ∈ usedC M size P' ↔ y ∈ usedC M size P ∧ y ≠ X)
    (hc : (l' = l ∧ P'.map Pg.q = P.map Pg.q) ∨ ∃ P1 p P2, P = P1 ++ p :: P2 ∧ P' = P1 ++ P2 ∧ ∃ a d, l = a ++ (0, false) :: d ∧ p.q = span a ∧ l' = melt top a.reverse 0 d)
    (hR : RGv top M size l (slabsC P) (usedC M size P) X er lr SL' UL') : er = 0 ∧ lr = l' ∧ SL' = slabsC P' ∧ UL' = usedC M size P' := by
  have hcut : cutL (usedC M size P) X = usedC M size P' := sorted_eq (cutL_sorted (usedC_rise hr hM hs)) (usedC_rise hr' hM hs) fun z => by rw [cutL_mem, hu]
  obtain ⟨p, hp, j, hj, hb, hx⟩ := mem_usedC.1 hX
  have hdiv : X.tdiv 1024 * 1024 = ((1024 * p.q : Nat) : Int) := by
    have := (place_mod (q := p.q) hM hs hj).1
    rw [hx, Int.tdiv_eq_ediv_of_nonneg (by omega)]
    omega
  rcases hc with ⟨rfl, e⟩ | ⟨P1, p2, P2, hP, hP', a, d, hld, hsp, hlm⟩
  · have hslab : slabsC P' = slabsC P := by
      have : ∀ Q : List Pg, slabsC Q = (Q.map Pg.q).map fun q => ((1024 * q : Nat) : Int) := fun Q => by rw [List.map_map]; rfl
      rw [this, this, e]
    have hpm : p.q ∈ P'.map Pg.q := by rw [e]; exact List.mem_map.2 ⟨p, hp, rfl⟩
    obtain ⟨p', hp', hq⟩ := List.mem_map.1 hpm
    obtain ⟨i, hi, hbi⟩ := hl'.some p' hp'
    cases hR with
    | no h => exact absurd hX h
    | some h k hk hmem => exact ⟨rfl, rfl, hslab.symm, hcut⟩
    | all h hall =>
      refine absurd ?_ (hall i hi)
      rw [hdiv, hcut, ← hq]
      exact (used_at hr' hM hs hp' hi).2 hbi
  · have hp2 : p2 ∈ P := by rw [hP]; simp
    have hno : ∀ y ∈ P', y.q ≠ p2.q := fun y hy e => by
      rw [hP'] at hy
      have hr2 := hr
      rw [hP] at hr2
      unfold RisesQ at hr2
      rw [List.pairwise_append, List.pairwise_cons] at hr2
      rcases List.mem_append.1 hy with h1 | h1
      · have := hr2.2.2 y h1 p2 List.mem_cons_self
        omega
      · have := hr2.2.1.1 y h1
        omega
    have hpp : p2.q = p.q := by
      obtain ⟨i, hi, hbi⟩ := hl.some p2 hp2
      have h1 : ((1024 * p2.q + 64 + i * size : Nat) : Int) ∈ usedC M size P := mem_usedC.2 ⟨p2, hp2, i, hi, hbi, rfl⟩
      by_cases e : ((1024 * p2.q + 64 + i * size : Nat) : Int) = X
      · rw [hx] at e
        exact (place_one hM hs hi hj e).1
      · obtain ⟨y, hy, i2, hi2, _, e2⟩ := mem_usedC.1 ((hu _).2 ⟨h1, e⟩)
        exact absurd (place_one hM hs hi hi2 e2).1.symm (hno y hy)
    cases hR with
    | no h => exact absurd hX h
    | some h k hk hmem =>
      rw [hdiv, hcut, slab_place] at hmem
      obtain ⟨y, hy, i2, hi2, _, e2⟩ := mem_usedC.1 hmem
      exact absurd ((place_one hM hs hk hi2 e2).1.symm.trans hpp.symm) (hno y hy)
    | all h hall er2 _ hgc =>
      have hg : GiveR top l (X.tdiv 1024 * 1024) 0 (melt top a.reverse 0 d) := .inr ⟨0, a, d, hld, by rw [hdiv, ← hpp, hsp]; omega, rfl, rfl⟩
      rw [hg.eq] at hgc
      injection hgc with t1 t2
      refine ⟨rfl, by rw [hlm, t2], ?_, hcut⟩
      refine sorted_eq (cutL_sorted (slabsC_rise hr)) (slabsC_rise hr') fun z => ?_
      rw [cutL_mem, mem_slabsC, mem_slabsC, hdiv, ← hpp]
      constructor
      · rintro ⟨⟨y, hy, rfl⟩, hne⟩
        rw [hP] at hy
        rw [hP']
        rcases List.mem_append.1 hy with h1 | h1
        · exact ⟨y, List.mem_append_left _ h1, rfl⟩
        · rcases List.mem_cons.1 h1 with rfl | h1
          · exact absurd rfl hne
          · exact ⟨y, List.mem_append_right _ h1, rfl⟩
      · rintro ⟨y, hy, rfl⟩
        have := hno y hy
        refine ⟨⟨y, ?_, rfl⟩, by omega⟩
        rw [hP'] at hy
        rw [hP]
        rcases List.mem_append.1 hy with h1 | h1
        · exact List.mem_append_left _ h1
        · exact List.mem_append_right _ (List.mem_cons_of_mem _ h1)
theorem take_lay {o at_ er : Int} {l' : List Tl} (h : TakeR top l o at_ er l') (hl : Lay top M l P) : Lay top M l' P := by
  refine ⟨fun p hp => ?_, hl.some⟩
  have h1 := hl.mem p hp
  rcases h with ⟨_, _, _, rfl⟩ | ⟨q, _, _, ⟨_, _, _, rfl⟩ | ⟨k, a, c, rfl, hk, _, _, _, _, rfl⟩⟩
  · exact h1
  · exact h1
  · rw [used_free] at h1
    rw [take_used a c hk]
    rcases List.mem_append.1 h1 with h1 | h1
    · exact List.mem_append_left _ h1
    · exact List.mem_append_right _ (List.mem_cons_of_mem _ h1)
end
end Go.Proofs.YtflkoabgkgegjaaGreatDoor
/- The pool's Get, where the limit allows it. Condition: the pool's state, and the tables hold what their texts say. -/
namespace Go.Proofs.YtflkoabgkgegjaaGreatDoor
open Go.RowKit Go.Maps

/-- what Get does: where it begins, an error's number, tiles, pages of the class, bytes, what is charged -/
inductive GetS (L : Nat) (k : Nat) (l : List Tl) (P : List Pg) (f : Nat → Nat) (C : Nat) : Int → Int → List Tl → List Pg → (Nat → Nat) → Nat → Prop
  | quota (h : L < C + szC k) : GetS L k l P f C 0 5 l P f C
  | none (h : C + szC k ≤ L) (hf : ∀ x ∈ P, FullP (mC k) x) (ht : takeC 6 l 0 = (0, 4, l)) : GetS L k l P f C 0 4 l P f C
  | yes (h : C + szC k ≤ L) (a : Nat) (ha : a + szC k ≤ 65536) (l' : List Tl) (P' : List Pg) (ht : TakeS 6 (mC k) (szC k) l P (a : Int) 0 l' P') : GetS L k l P f C (a : Int) 0 l' P' (Ar.fillF f a (szC k) 0) (C + szC k)
theorem TakeS.fail {top M size : Nat} {l l' : List Tl} {P P' : List Pg} {x er : Int} (h : TakeS top M size l P x er l' P') (hne : er ≠ 0) : (∀ x ∈ P, FullP M x) ∧ takeC top l 0 = (0, 4, l) ∧ x = 0 ∧ er = 4 ∧ l' = l ∧ P' = P := by
  cases h with
  | old => exact absurd rfl hne
  | none hf hc => exact ⟨hf, hc, rfl, rfl, rfl, rfl⟩
  | new => exact absurd rfl hne
theorem fill_int (w : World) (ga gb N : Nat) (f : Nat → Nat) (a n : Nat) (A B : Int) (hA : (a : Int) = A) (hB : (n : Int) = B) (ha : a + n ≤ N) (h : Ar.ArAt w ga gb N f) :
    Calls Tryz.prog 51 #[.pointer (some ⟨ga, 0, none⟩), .int .i64 A, .int .i64 B, .int .u8 0] w fun e w' => e = .returned (.int .i64 0) ∧ Ar.ArAt w' ga gb N (Ar.fillF f a n 0) ∧ w.grownBy w' (some gb) := by
  subst hA hB
  exact Ar.fill_yes w ga gb N f a n 0 ha (by decide) h
section
variable {W w w' : World} {pb tb qm fb ga gb b : Nat} {c : Nat → Nat} {L n : Nat} {l : List Tl} {P : Nat → List Pg} {f : Nat → Nat} {C : Nat}
set_option maxRecDepth 100000 in
set_option maxHeartbeats 6400000 in
theorem pget_fits (h : PL W w pb tb qm fb ga gb b c L n l P f C) (hZ : TabZ W) (hC : TabC W) (hn : n < 1000) {k : Nat} (hk : k ∈ cls) (K : Int) (hK : (k : Int) = K) (hq : C + szC k ≤ L) :
    Calls Tryz.prog 14 #[.pointer (some ⟨pb, 0, none⟩), .int .i64 0, .int .i64 K] w fun e w' => ∃ x er l' P' f' C', e = .returned (.tuple #[.int .i64 x, .int .i64 er]) ∧ GetS L k l (P k) f C x er l' P' f' C' ∧ PL W w' pb tb qm fb ga gb b c L (n + 1) l' (updF P k P') f' C' ∧ KeepP w w' := by
  have hcf := cls_facts k hk
  have HH := Lib.hid h
  have HT : Hid (∀ wx, Below W.heap.size W wx → TabC wx) := Lib.hid (fun wx hx => hC.below hC.lt hx)
  have HZ := Lib.hid hZ
  have HN := Lib.hid hn
  have HKC := Lib.hid hk
  have HC : Hid ((costI K : Int) = ((szC k : Nat) : Int)) := Lib.hid (by rw [← hK, cost_cls hk])
  obtain ⟨z, hz⟩ : ∃ z : Int, ((szC k : Nat) : Int) = z := ⟨_, rfl⟩
  have HSZ := Lib.hid hz
  have HQ := Lib.hid hq
  have t1 : (z == 0) = false := by simp only [beq_eq_false_iff_ne, ne_eq]; omega
  have i0 : (0 : Int) ≤ K := by omega
  have i1 : K < 8 := by omega
  have HKN : Hid (K.toNat = k) := Lib.hid (by omega)
  have r0 := h.r0
  rw [hz] at HC
  clear h hC hZ hn hk hcf hz hK hq
  go_enter Tryz.func14, Tryz.ntmps14
  go_wp2_with fail
  refine (pcost K _ (HT.out _ HH.out.way) z HC.out).mono ?_
  rintro e w' ⟨rfl, hw⟩
  have hw2 := hw.symm
  clear hw
  subst hw2
  go_wp2_with fail
  have hd := HH.out.below (Below.refl _ _).drew
  have hTd : TabC w.drew := (HT.out w HH.out.way :)
  go_region_held3 (fun w' => w'.cell? ⟨pb, 0, none⟩ = some (.pointer (some ⟨tb, 0, none⟩))) (first | (exact PL.r0 (by assumption))) (first | (go_at_call 47; (with_reducible refine (pcost K _ hTd z HC.out).mono ?_); rintro e w8 ⟨rfl, rfl⟩) | (go_at_call 48; (with_reducible refine (qcharge_yes (PL.qu (by assumption)) (by have := HH.out.le.2; omega) (szC k) HQ.out z HSZ.out.symm).mono ?_); rintro e w9 ⟨rfl, hq9, hg9⟩; obtain ⟨h10, hk10⟩ := (PL.charged (by assumption) hg9 hq9 HQ.out)))
  all_goals
    have H10 := Lib.hid h10
    have HK10 := Lib.hid ((KeepP.of_below (Below.refl w.heap.size w).drew).trans hk10)
    have rk : w9.cell? ⟨pb, 3 + K.toNat, none⟩ = some (.pointer (some ⟨c k, 0, none⟩)) := by rw [HKN.out]; exact h10.rk HKC.out
    clear hd hTd hq9 hg9 h10 hk10 r0
    go_wp2_with fail
    obtain ⟨K', u1, u2⟩ := H10.out.use HKC.out
    have hcf := cls_facts k HKC.out
    refine (take_s u1 HZ.out HN.out hcf.1 hcf.2.1 hcf.2.2.1 (H10.out.lay.lay k HKC.out)).mono ?_
    rintro e w11 ⟨x, er, l', P', rfl, hts, h11⟩
    obtain ⟨h12, h13⟩ := u2 _ _ _ _ h11 (H10.out.lay.take HKC.out hts (H10.out.wf HKC.out))
    have H12 := Lib.hid h12
    have HK12 := Lib.hid (HK10.out.trans h13.p)
    have HTS := Lib.hid hts
    have HL12 := Lib.hid (h12.lay.lay k HKC.out)
    have hus := hts.used (H10.out.lay.lay k HKC.out) (H10.out.rise HKC.out) (H10.out.wf HKC.out) hcf.2.2.1 (by omega) hcf.2.2.2.2.2.2.1
    have HUS := Lib.hid hus
    clear u1 u2 hcf hts h11 h12 h13 rk hus
    by_cases q : er = 0
    · have t2 : (er != 0) = false := by simp [q]
      have hmem : x ∈ usedC (mC k) (szC k) P' := by
        rcases HUS.out with ⟨e1, _⟩ | ⟨_, _, h3⟩
        · omega
        · exact (h3 x).2 (.inr rfl)
      rw [updF_same] at HL12
      obtain ⟨a, ha, hb, _⟩ := used_place HL12.out H12.out.good (cls_facts k HKC.out).2.2.1 (sz16 HKC.out) hmem
      have HA := Lib.hid ha
      have HB := Lib.hid hb
      have HE := Lib.hid q
      have r2 := H12.out.r2
      clear ha hb q hmem
      go_wp2_with fail
      have hd := H12.out.below (Below.refl _ _).drew
      have hTd : TabC w11.drew := (HT.out w11 H12.out.way :)
      go_region_held3 (fun w' => w'.cell? ⟨pb, 2, none⟩ = some (.pointer (some ⟨ga, 0, none⟩))) (first | (exact PL.r2 (by assumption))) (first | (go_at_call 47; (with_reducible refine (pcost K _ hTd z HC.out).mono ?_); rintro e w13 ⟨rfl, rfl⟩) | (go_at_call 51; (with_reducible refine (fill_int _ ga gb 65536 f a (szC k) x z HA.out.symm HSZ.out HB.out (PL.ar (by assumption))).mono ?_); rintro e w14 ⟨rfl, hq14, hg14⟩; obtain ⟨h15, hk15⟩ := (PL.wrote (by assumption) hg14 hq14)))
      all_goals
        have H15 := Lib.hid h15
        have HK15 := Lib.hid ((HK12.out.trans (KeepP.of_below (Below.refl w11.heap.size w11).drew)).trans hk15)
        clear hd hTd hq14 hg14 h15 hk15
        go_wp2
        go_ret2
        refine ⟨x, 0, l', P', _, _, rfl, ?_, H15.out, HK15.out⟩
        have e1 := HA.out
        have e2 := HTS.out
        have e3 := HE.out
        subst e1 e3
        exact .yes HQ.out a HB.out l' P' e2
    · have t2 : (er != 0) = true := by simp [q]
      have HE := Lib.hid q
      have r0 := H12.out.r0
      clear q
      go_wp2_with fail
      have hd := H12.out.below (Below.refl _ _).drew
      have hTd : TabC w11.drew := (HT.out w11 H12.out.way :)
      go_region_held3 (fun w' => w'.cell? ⟨pb, 0, none⟩ = some (.pointer (some ⟨tb, 0, none⟩))) (first | (exact PL.r0 (by assumption))) (first | (go_at_call 47; (with_reducible refine (pcost K _ hTd z HC.out).mono ?_); rintro e w13 ⟨rfl, rfl⟩) | (go_at_call 50; (with_reducible refine (qrefund (PL.qu (by assumption)) (by have := H12.out.le; omega) (szC k) (by omega) z HSZ.out.symm).mono ?_); rintro e w14 ⟨rfl, hq14, hg14⟩; obtain ⟨h15, hk15⟩ := (PL.charged (C' := C) (by assumption) hg14 (by rw [Nat.add_sub_cancel] at hq14; exact hq14) (by have := HQ.out; omega))))
      all_goals
        have H15 := Lib.hid h15
        have HK15 := Lib.hid ((HK12.out.trans (KeepP.of_below (Below.refl w11.heap.size w11).drew)).trans hk15)
        clear hd hTd hq14 hg14 h15 hk15
        go_wp2
        go_ret2
        refine ⟨0, er, l', P', _, _, rfl, ?_, H15.out, HK15.out⟩
        obtain ⟨e1, e2, e3, e4, e5, e6⟩ := HTS.out.fail HE.out
        subst e3 e4 e5 e6
        exact .none HQ.out e1 e2
theorem pget (h : PL W w pb tb qm fb ga gb b c L n l P f C) (hZ : TabZ W) (hC : TabC W) (hn : n < 1000) {k : Nat} (hk : k ∈ cls) (K : Int) (hK : (k : Int) = K) :
    Calls Tryz.prog 14 #[.pointer (some ⟨pb, 0, none⟩), .int .i64 0, .int .i64 K] w fun e w' => ∃ x er l' P' f' C', e = .returned (.tuple #[.int .i64 x, .int .i64 er]) ∧ GetS L k l (P k) f C x er l' P' f' C' ∧ PL W w' pb tb qm fb ga gb b c L (n + 1) l' (updF P k P') f' C' ∧ KeepP w w' := by
  by_cases hq : L < C + szC k
  · refine (pget_quota h hC hk K hK hq).mono ?_
    rintro e w' ⟨rfl, hb⟩
    refine ⟨0, 5, l, P k, f, C, rfl, .quota hq, ?_, KeepP.of_below hb⟩
    rw [updF_eta]
    exact (h.below hb).monon (Nat.le_succ _)
  · exact pget_fits h hZ hC hn hk K hK (by omega)
end
end Go.Proofs.YtflkoabgkgegjaaGreatDoor
/- The pool's Put and Used. Condition: the pool's state, and the tables hold what their texts say. -/
namespace Go.Proofs.YtflkoabgkgegjaaGreatDoor
open Go.RowKit Go.Maps
section
variable {W w w' : World} {pb tb qm fb ga gb b : Nat} {c : Nat → Nat} {L n : Nat} {l : List Tl} {P : Nat → List Pg} {f : Nat → Nat} {C : Nat}
set_option maxRecDepth 100000 in
set_option maxHeartbeats 6400000 in
theorem pput (h : PL W w pb tb qm fb ga gb b c L n l P f C) (hC : TabC W) {k : Nat} (hk : k ∈ cls) (K : Int) (hK : (k : Int) = K) (X : Int) (hX : X ∈ usedC (mC k) (szC k) (P k)) (hq : szC k ≤ C) :
    Calls Tryz.prog 35 #[.pointer (some ⟨pb, 0, none⟩), .int .i64 0, .int .i64 K, .int .i64 X] w fun e w' => e = .returned (.int .i64 0) ∧ ∃ l' P', PL W w' pb tb qm fb ga gb b c L n l' (updF P k P') f (C - szC k) ∧ KeepP w w' ∧ (∀ y, y ∈ usedC (mC k) (szC k) P' ↔ y ∈ usedC (mC k) (szC k) (P k) ∧ y ≠ X) ∧
      ((l' = l ∧ P'.map Pg.q = (P k).map Pg.q) ∨ ∃ P1 p P2, P k = P1 ++ p :: P2 ∧ P' = P1 ++ P2 ∧ ∃ a d, l = a ++ (0, false) :: d ∧ p.q = span a ∧ l' = melt 6 a.reverse 0 d) := by
  have hcf := cls_facts k hk
  obtain ⟨a, ha, hab, _⟩ := used_place (h.lay.lay k hk) h.good hcf.2.2.1 (sz16 hk) hX
  have HXW : Hid ((Lit.int .i64 X).wf = true) := Lib.hid (WalkArith.wf_i64 (by omega))
  have HH := Lib.hid h
  have HT : Hid (∀ wx, Below W.heap.size W wx → TabC wx) := Lib.hid (fun wx hx => hC.below hC.lt hx)
  have HKC := Lib.hid hk
  have HKI := Lib.hid hK
  have HX := Lib.hid hX
  have HC : Hid ((costI K : Int) = ((szC k : Nat) : Int)) := Lib.hid (by rw [← hK, cost_cls hk])
  obtain ⟨z, hz⟩ : ∃ z : Int, ((szC k : Nat) : Int) = z := ⟨_, rfl⟩
  have HSZ := Lib.hid hz
  have HQ := Lib.hid hq
  have t1 : (z == 0) = false := by simp only [beq_eq_false_iff_ne, ne_eq]; omega
  have i0 : (0 : Int) ≤ K := by omega
  have i1 : K < 8 := by omega
  have HKN : Hid (K.toNat = k) := Lib.hid (by omega)
  rw [hz] at HC
  clear h hC hk hcf hz hK hq hX ha hab
  go_enter Tryz.func35, Tryz.ntmps35
  go_wp2_with fail
  refine (pcost K _ (HT.out _ HH.out.way) z HC.out).mono ?_
  rintro e w' ⟨rfl, hw⟩
  have hw2 := hw.symm
  clear hw
  subst hw2
  go_wp2_with fail
  refine (phas HH.out (by have := HT.out W (Below.refl _ _); exact this) HKC.out K HKI.out X HXW.out true (by simp [HX.out])).mono ?_
  rintro e w2 ⟨rfl, h2, k2⟩
  have H2 := Lib.hid h2
  have HK2 := Lib.hid k2
  have r0 := h2.r0
  clear h2 k2
  go_wp2_with fail
  have hd := H2.out.below (Below.refl _ _).drew
  have hTd : TabC w2.drew := (HT.out w2 H2.out.way :)
  go_region_held3 (fun w' => w'.cell? ⟨pb, 0, none⟩ = some (.pointer (some ⟨tb, 0, none⟩))) (first | (exact PL.r0 (by assumption))) (first | (go_at_call 47; (with_reducible refine (pcost K _ hTd z HC.out).mono ?_); rintro e w8 ⟨rfl, rfl⟩) | (go_at_call 50; (with_reducible refine (qrefund (PL.qu (by assumption)) (by have := H2.out.le; omega) (szC k) HQ.out z HSZ.out.symm).mono ?_); rintro e w9 ⟨rfl, hq9, hg9⟩; obtain ⟨h10, hk10⟩ := (PL.charged (by assumption) hg9 hq9 (by have := H2.out.le; omega))))
  all_goals
    have H10 := Lib.hid h10
    have HK10 := Lib.hid ((HK2.out.p.trans (KeepP.of_below (Below.refl w2.heap.size w2).drew)).trans hk10)
    have rk : w9.cell? ⟨pb, 3 + K.toNat, none⟩ = some (.pointer (some ⟨c k, 0, none⟩)) := by rw [HKN.out]; exact h10.rk HKC.out
    clear hd hTd hq9 hg9 h10 hk10 r0
    go_wp2_with fail
    obtain ⟨K', u1, u2⟩ := H10.out.use HKC.out
    have hcf := cls_facts k HKC.out
    refine (giveyes_s u1 (H10.out.lay.lay k HKC.out) (by omega) hcf.2.1 hcf.2.2.1 X HX.out).mono ?_
    rintro e w11 ⟨rfl, l', P', h11, hl, hu, hc⟩
    obtain ⟨h12, h13⟩ := u2 _ _ _ _ h11 (H10.out.lay.give HKC.out hl hc)
    have H12 := Lib.hid h12
    have HK12 := Lib.hid (HK10.out.trans h13.p)
    have HU := Lib.hid hu
    have HCC := Lib.hid hc
    clear u1 u2 hcf h11 hl hu hc h12 h13 rk
    go_wp2
    go_ret
    exact ⟨rfl, l', P', H12.out, HK12.out, HU.out, HCC.out⟩
end
end Go.Proofs.YtflkoabgkgegjaaGreatDoor
