/- The plain law: what the reference does is what the program does. No condition. -/
import Derived.Test.YtbadoihpbemjjaaDoorY40
/- The plain law: what the reference does is what the program does. No condition. -/
namespace Go.Proofs.YtbadoihpbemjjaaDoor

theorem sorted_eq : ∀ {L M : List Int}, L.Pairwise (· < ·) → M.Pairwise (· < ·) → (∀ x, x ∈ L ↔ x ∈ M) → L = M
  | [], [], _, _, _ => rfl
  | [], y :: M, _, _, h => absurd ((h y).2 List.mem_cons_self) List.not_mem_nil
  | x :: L, [], _, _, h => absurd ((h x).1 List.mem_cons_self) List.not_mem_nil
  | x :: L, y :: M, hl, hm, h => by
    obtain ⟨l1, l2⟩ := List.pairwise_cons.1 hl
    obtain ⟨m1, m2⟩ := List.pairwise_cons.1 hm
    have e : x = y := by
      rcases List.mem_cons.1 ((h x).1 List.mem_cons_self) with e | e
      · exact e
      · rcases List.mem_cons.1 ((h y).2 List.mem_cons_self) with e2 | e2
        · exact e2.symm
        · have := m1 x e
          have := l1 y e2
          omega
    subst e
    rw [sorted_eq l2 m2 fun z => ?_]
    have hz := h z
    rw [List.mem_cons, List.mem_cons] at hz
    constructor
    · intro q
      rcases hz.1 (.inr q) with e | e
      · have := l1 z q
        omega
      · exact e
    · intro q
      rcases hz.2 (.inr q) with e | e
      · have := m1 z q
        omega
      · exact e
theorem PutI.mem {L L' : List Int} {x : Int} (h : PutI L x L') (y : Int) : y ∈ L' ↔ y ∈ L ∨ y = x := by
  obtain ⟨k, hk, rfl, _⟩ := h
  conv => rhs; rw [← List.take_append_drop k L]
  simp only [List.mem_append, List.mem_cons]
  constructor
  · rintro (h | h | h)
    · exact .inl (.inl h)
    · exact .inr h
    · exact .inl (.inr h)
  · rintro ((h | h) | h)
    · exact .inl h
    · exact .inr (.inr h)
    · exact .inr (.inl h)
theorem PutI.sorted {L L' : List Int} {x : Int} (h : PutI L x L') (hs : L.Pairwise (· < ·)) (hx : x ∉ L) : L'.Pairwise (· < ·) := by
  obtain ⟨k, hk, rfl, h1, h2⟩ := h
  have ha := hs
  rw [← List.take_append_drop k L, List.pairwise_append] at ha
  have lo : ∀ y ∈ L.take k, y < x := fun y hy => by
    obtain ⟨j, hj, rfl⟩ := List.getElem_of_mem hy
    rw [List.length_take] at hj
    rw [List.getElem_take]
    rcases h2 with h2 | ⟨h3, h2⟩
    · omega
    · have hne : L[j] ≠ x := fun e => hx (by rw [← e]; exact List.getElem_mem _)
      by_cases e : j = k - 1
      · subst e; omega
      · have := List.pairwise_iff_getElem.1 hs j (k - 1) (by omega) h3 (by omega)
        omega
  have hi : ∀ y ∈ L.drop k, x < y := fun y hy => by
    obtain ⟨j, hj, rfl⟩ := List.getElem_of_mem hy
    rw [List.length_drop] at hj
    rw [List.getElem_drop]
    exact h1 (k + j) (by omega) (by omega)
  rw [List.pairwise_append]
  refine ⟨ha.1, List.pairwise_cons.2 ⟨hi, ha.2.1⟩, fun a h3 b h4 => ?_⟩
  rcases List.mem_cons.1 h4 with rfl | h4
  · exact lo a h3
  · exact ha.2.2 a h3 b h4
theorem cutL_mem {L : List Int} {x y : Int} : y ∈ cutL L x ↔ y ∈ L ∧ y ≠ x := by
  unfold cutL
  rw [List.mem_filter, decide_eq_true_iff]
theorem cutL_sorted {L : List Int} {x : Int} (h : L.Pairwise (· < ·)) : (cutL L x).Pairwise (· < ·) := h.filter _
section
variable {top M size : Nat} {l : List Tl} {P : List Pg}
theorem slabsC_rise (h : RisesQ P) : (slabsC P).Pairwise (· < ·) := by
  unfold slabsC
  rw [List.pairwise_map]
  exact List.Pairwise.imp (fun {x y} q => by omega) h
theorem mem_slabsC {y : Int} : y ∈ slabsC P ↔ ∃ p ∈ P, y = ((1024 * p.q : Nat) : Int) := by
  unfold slabsC
  rw [List.mem_map]
  exact ⟨fun ⟨p, h1, h2⟩ => ⟨p, h1, h2.symm⟩, fun ⟨p, h1, h2⟩ => ⟨p, h1, h2.symm⟩⟩
theorem place_one (hM : M = 960 / size) (hs : 0 < size) {q1 q2 i1 i2 : Nat} (h1 : i1 < M) (h2 : i2 < M) (e : ((1024 * q1 + 64 + i1 * size : Nat) : Int) = ((1024 * q2 + 64 + i2 * size : Nat) : Int)) : q1 = q2 ∧ i1 = i2 := by
  have e1 := place_mod (q := q1) hM hs h1
  have e2 := place_mod (q := q2) hM hs h2
  have e3 : 1024 * q1 + 64 + i1 * size = 1024 * q2 + 64 + i2 * size := by omega
  rw [e3] at e1
  have e4 : 64 + i1 * size = 64 + i2 * size := e1.2.1.symm.trans e2.2.1
  have e5 := e1.2.2.2
  rw [e4] at e5
  exact ⟨e1.1.symm.trans e2.1, e5.symm.trans e2.2.2.2⟩
theorem page_one (h : RisesQ P) {x y : Pg} (hx : x ∈ P) (hy : y ∈ P) (e : x.q = y.q) : x = y := by
  obtain ⟨i, hi, rfl⟩ := List.getElem_of_mem hx
  obtain ⟨j, hj, rfl⟩ := List.getElem_of_mem hy
  rcases Nat.lt_trichotomy i j with q | q | q
  · have := h.at hi hj q
    omega
  · subst q; rfl
  · have := h.at hj hi q
    omega
theorem slab_at {i : Nat} (hi : i < (slabsC P).length) : (slabsC P)[i] = ((1024 * (P[i]'(by rw [slabsC_length] at hi; exact hi)).q : Nat) : Int) := by simp [slabsC]
theorem slab_place {q k : Nat} : ((1024 * q : Nat) : Int) + 64 + ((k * size : Nat) : Int) = ((1024 * q + 64 + k * size : Nat) : Int) := by omega
/-- a place of a page is used just if its bit is -/
theorem used_at (hr : RisesQ P) (hM : M = 960 / size) (hs : 0 < size) {p : Pg} (hp : p ∈ P) {k : Nat} (hk : k < M) : ((1024 * p.q : Nat) : Int) + 64 + ((k * size : Nat) : Int) ∈ usedC M size P ↔ bitW p.ws k = true := by
  rw [slab_place, mem_usedC]
  constructor
  · rintro ⟨x, hx, j, hj, hb, e⟩
    obtain ⟨e1, e2⟩ := place_one hM hs hk hj e
    subst e2
    rw [page_one hr hp hx e1]
    exact hb
  · exact fun hb => ⟨p, hp, k, hk, hb, rfl⟩
theorem take_join {x e at_ er : Int} {lp lr : List Tl} {P' : List Pg} {SL' UL' : List Int} (hS : TakeS top M size l P x e lp P') (hl : Lay top M l P) (hr : RisesQ P) (hr' : RisesQ P') (hwf : ∀ p ∈ P, WF M p.ws) (hM : M = 960 / size) (hs : 0 < size) (h0 : 0 < M)
    (hR : RTk top M size l (slabsC P) (usedC M size P) at_ er lr SL' UL') : at_ = x ∧ er = e ∧ lr = lp ∧ SL' = slabsC P' ∧ UL' = usedC M size P' := by
  have husort := usedC_rise hr hM hs
  have husort' := usedC_rise hr' hM hs
  have hu := hS.used hl hr hwf hM hs h0
  have put_eq : ∀ {y : Int} {L : List Int}, y = x → PutI (usedC M size P) y L → y ∉ usedC M size P → (∀ z, z ∈ usedC M size P' ↔ z ∈ usedC M size P ∨ z = x) → L = usedC M size P' := fun {y L} ey hp hn hm => by
    subst ey
    exact sorted_eq (hp.sorted husort hn) husort' fun z => by rw [hp.mem, hm]
  -- every place of every page is used: none is free
  have full : (∀ p ∈ P, FullP M p) → ∀ i (hi : i < (slabsC P).length) k, k < M → (slabsC P)[i] + 64 + ((k * size : Nat) : Int) ∈ usedC M size P := fun hf i hi k hk => by
    rw [slab_at hi]
    exact (used_at hr hM hs (List.getElem_mem _) hk).2 (hf _ (List.getElem_mem _) k hk)
  cases hS with
  | old P1 P2 p j hP hf hj hjm =>
    have hpl : P1.length < P.length := by rw [hP]; simp
    have hsl : P1.length < (slabsC P).length := by rw [slabsC_length]; exact hpl
    have hpg : P[P1.length] = p := by simp [hP]
    have hpm : p ∈ P := by rw [hP]; simp
    obtain ⟨hfree, hlo⟩ : bitW p.ws j = false ∧ ∀ i, i < j → bitW p.ws i = true := by
      rcases hj with ⟨h1, _⟩ | ⟨k, h1, _, _, h2, h3⟩
      · omega
      · have : k = j := by omega
        subst this
        exact ⟨h2, fun i hi => by simpa using h3 i (Nat.zero_le _) hi⟩
    have hno : (slabsC P)[P1.length] + 64 + ((j * size : Nat) : Int) ∉ usedC M size P := by
      rw [slab_at hsl, hpg, used_at hr hM hs hpm hjm, hfree]
      decide
    have hall : ∀ i' k' (hi' : i' < (slabsC P).length), k' < M → (i' < P1.length ∨ i' = P1.length ∧ k' < j) → (slabsC P)[i'] + 64 + ((k' * size : Nat) : Int) ∈ usedC M size P := fun i' k' hi' hk' hc => by
      rw [slab_at hi', used_at hr hM hs (List.getElem_mem _) hk']
      rcases hc with hc | ⟨rfl, hc⟩
      · refine hf _ ?_ k' hk'
        have : P[i']'(by omega) = P1[i'] := by simp [hP, List.getElem_append_left hc]
        rw [this]
        exact List.getElem_mem _
      · rw [hpg]
        exact hlo k' hc
    rcases hu with ⟨h1, _⟩ | ⟨_, hxn, hm⟩
    · omega
    cases hR with
    | old i k hi hk hno2 hall2 UL' hp =>
      have hik : i = P1.length ∧ k = j := by
        rcases Nat.lt_trichotomy i P1.length with q | q | q
        · exact absurd (hall i k hi hk (.inl q)) hno2
        · rcases Nat.lt_trichotomy k j with q2 | q2 | q2
          · exact absurd (hall i k hi hk (.inr ⟨q, q2⟩)) hno2
          · exact ⟨q, q2⟩
          · exact absurd (hall2 P1.length j hsl hjm (.inr ⟨q.symm, q2⟩)) hno
        · exact absurd (hall2 P1.length j hsl hjm (.inl q)) hno
      obtain ⟨rfl, rfl⟩ := hik
      have ex : (slabsC P)[P1.length] + 64 + ((k * size : Nat) : Int) = ((1024 * p.q + 64 + k * size : Nat) : Int) := by
        rw [slab_at hsl, hpg, slab_place]
      refine ⟨ex, rfl, rfl, ?_, put_eq ex hp hno2 hm⟩
      rw [hP]
      simp [slabsC]
    | none hall2 => exact absurd (hall2 P1.length j hsl hjm) hno
    | new hall2 => exact absurd (hall2 P1.length j hsl hjm) hno
  | none hf hc =>
    have hall := full hf
    cases hR with
    | old i k hi hk hno2 => exact absurd (hall i hi k hk) hno2
    | none hall2 at2 er2 _ hne hc2 =>
      rw [hc] at hc2
      injection hc2 with t1 t2
      injection t2 with t2 t3
      exact ⟨rfl, rfl, t3.symm, rfl, rfl⟩
    | new hall2 at2 _ hc2 =>
      rw [hc] at hc2
      injection hc2 with t1 t2
      injection t2 with t2 t3
      cases t2
  | new hf q k a d hld hq hc i hi hpo p hp hw =>
    have hall := full hf
    rcases hu with ⟨h1, _⟩ | ⟨_, hxn, hm⟩
    · cases h1
    cases hR with
    | old i k hi hk hno2 => exact absurd (hall i hi k hk) hno2
    | none hall2 at2 er2 _ hne hc2 =>
      rw [hc] at hc2
      injection hc2 with t1 t2
      injection t2 with t2 t3
      exact absurd t2.symm hne
    | new hall2 at2 _ hc2 _ _ hp1 hp2 =>
      rw [hc] at hc2
      injection hc2 with t1 t2
      injection t2 with t2 t3
      subst t1
      have ex : ((1024 * q : Nat) : Int) + 64 = ((1024 * q + 64 : Nat) : Int) := by omega
      refine ⟨ex, rfl, t3.symm, ?_, put_eq ex hp2 (by rw [ex]; exact hxn) hm⟩
      have hqn : ((1024 * q : Nat) : Int) ∉ slabsC P := fun hc => by
        obtain ⟨y, hy, e⟩ := mem_slabsC.1 hc
        have : y.q ≠ q := by rw [hq]; exact free_not_used hld (hl.mem y hy)
        omega
      refine sorted_eq (hp1.sorted (slabsC_rise hr) hqn) (slabsC_rise hr') fun z => ?_
      rw [hp1.mem, mem_slabsC, mem_slabsC]
      constructor
      · rintro (⟨y, hy, rfl⟩ | rfl)
        · rw [← List.take_append_drop i P] at hy
          rcases List.mem_append.1 hy with h1 | h1
          · exact ⟨y, List.mem_append_left _ h1, rfl⟩
          · exact ⟨y, List.mem_append_right _ (List.mem_cons_of_mem _ h1), rfl⟩
        · exact ⟨p, List.mem_append_right _ List.mem_cons_self, by rw [hp]⟩
      · rintro ⟨y, hy, rfl⟩
        rcases List.mem_append.1 hy with h1 | h1
        · exact .inl ⟨y, List.mem_of_mem_take h1, rfl⟩
        · rcases List.mem_cons.1 h1 with rfl | h1
          · exact .inr (by rw [hp])
          · exact .inl ⟨y, List.mem_of_mem_drop h1, rfl⟩
theorem give_join {X er : Int} {l' lr : List Tl} {P' : List Pg} {SL' UL' : List Int} (hl : Lay top M l P) (hl' : Lay top M l' P') (hr : RisesQ P) (hr' : RisesQ P') (hM : M = 960 / size) (hs : 0 < size) (hX : X ∈ usedC M size P)
    (hu : ∀ y, y ∈ usedC M size P' ↔ y ∈ usedC M size P ∧ y ≠ X)
    (hc : (l' = l ∧ P'.map Pg.q = P.map Pg.q) ∨ ∃ P1 p P2, P = P1 ++ p :: P2 ∧ P' = P1 ++ P2 ∧ ∃ a d, l = a ++ (0, false) :: d ∧ p.q = span a ∧ l' = melt top a.reverse 0 d)
    (hR : RGv top M size l (slabsC P) (usedC M size P) X er lr SL' UL') : er = 0 ∧ lr = l' ∧ SL' = slabsC P' ∧ UL' = usedC M size P' := by
  have hcut : cutL (usedC M size P) X = usedC M size P' := sorted_eq (cutL_sorted (usedC_rise hr hM hs)) (usedC_rise hr' hM hs) fun z => by rw [cutL_mem, hu]
  obtain ⟨p, hp, j, hj, hb, hx⟩ := mem_usedC.1 hX
  have hdiv : X.tdiv 1024 * 1024 = ((1024 * p.q : Nat) : Int) := by
    have := (place_mod (q := p.q) hM hs hj).1
    rw [hx, Int.tdiv_eq_ediv_of_nonneg (by omega)]
    omega
  rcases hc with ⟨rfl, e⟩ | ⟨P1, p2, P2, hP, hP', a, d, hld, hsp, hlm⟩
  · have hslab : slabsC P' = slabsC P := by
      have : ∀ Q : List Pg, slabsC Q = (Q.map Pg.q).map fun q => ((1024 * q : Nat) : Int) := fun Q => by rw [List.map_map]; rfl
      rw [this, this, e]
    have hpm : p.q ∈ P'.map Pg.q := by rw [e]; exact List.mem_map.2 ⟨p, hp, rfl⟩
    obtain ⟨p', hp', hq⟩ := List.mem_map.1 hpm
    obtain ⟨i, hi, hbi⟩ := hl'.some p' hp'
    cases hR with
    | no h => exact absurd hX h
    | some h k hk hmem => exact ⟨rfl, rfl, hslab.symm, hcut⟩
    | all h hall =>
      refine absurd ?_ (hall i hi)
      rw [hdiv, hcut, ← hq]
      exact (used_at hr' hM hs hp' hi).2 hbi
  · have hp2 : p2 ∈ P := by rw [hP]; simp
    have hno : ∀ y ∈ P', y.q ≠ p2.q := fun y hy e => by
      rw [hP'] at hy
      have hr2 := hr
      rw [hP] at hr2
      unfold RisesQ at hr2
      rw [List.pairwise_append, List.pairwise_cons] at hr2
      rcases List.mem_append.1 hy with h1 | h1
      · have := hr2.2.2 y h1 p2 List.mem_cons_self
        omega
      · have := hr2.2.1.1 y h1
        omega
    have hpp : p2.q = p.q := by
      obtain ⟨i, hi, hbi⟩ := hl.some p2 hp2
      have h1 : ((1024 * p2.q + 64 + i * size : Nat) : Int) ∈ usedC M size P := mem_usedC.2 ⟨p2, hp2, i, hi, hbi, rfl⟩
      by_cases e : ((1024 * p2.q + 64 + i * size : Nat) : Int) = X
      · rw [hx] at e
        exact (place_one hM hs hi hj e).1
      · obtain ⟨y, hy, i2, hi2, _, e2⟩ := mem_usedC.1 ((hu _).2 ⟨h1, e⟩)
        exact absurd (place_one hM hs hi hi2 e2).1.symm (hno y hy)
    cases hR with
    | no h => exact absurd hX h
    | some h k hk hmem =>
      rw [hdiv, hcut, slab_place] at hmem
      obtain ⟨y, hy, i2, hi2, _, e2⟩ := mem_usedC.1 hmem
      exact absurd ((place_one hM hs hk hi2 e2).1.symm.trans hpp.symm) (hno y hy)
    | all h hall er2 _ hgc =>
      have hg : GiveR top l (X.tdiv 1024 * 1024) 0 (melt top a.reverse 0 d) := .inr ⟨0, a, d, hld, by rw [hdiv, ← hpp, hsp]; omega, rfl, rfl⟩
      rw [hg.eq] at hgc
      injection hgc with t1 t2
      refine ⟨rfl, by rw [hlm, t2], ?_, hcut⟩
      refine sorted_eq (cutL_sorted (slabsC_rise hr)) (slabsC_rise hr') fun z => ?_
      rw [cutL_mem, mem_slabsC, mem_slabsC, hdiv, ← hpp]
      constructor
      · rintro ⟨⟨y, hy, rfl⟩, hne⟩
        rw [hP] at hy
        rw [hP']
        rcases List.mem_append.1 hy with h1 | h1
        · exact ⟨y, List.mem_append_left _ h1, rfl⟩
        · rcases List.mem_cons.1 h1 with rfl | h1
          · exact absurd rfl hne
          · exact ⟨y, List.mem_append_right _ h1, rfl⟩
      · rintro ⟨y, hy, rfl⟩
        have := hno y hy
        refine ⟨⟨y, ?_, rfl⟩, by omega⟩
        rw [hP'] at hy
        rw [hP]
        rcases List.mem_append.1 hy with h1 | h1
        · exact List.mem_append_left _ h1
        · exact List.mem_append_right _ (List.mem_cons_of_mem _ h1)
theorem take_lay {o at_ er : Int} {l' : List Tl} (h : TakeR top l o at_ er l') (hl : Lay top M l P) : Lay top M l' P := by
  refine ⟨fun p hp => ?_, hl.some⟩
  have h1 := hl.mem p hp
  rcases h with ⟨_, _, _, rfl⟩ | ⟨q, _, _, ⟨_, _, _, rfl⟩ | ⟨k, a, c, rfl, hk, _, _, _, _, rfl⟩⟩
  · exact h1
  · exact h1
  · rw [used_free] at h1
    rw [take_used a c hk]
    rcases List.mem_append.1 h1 with h1 | h1
    · exact List.mem_append_left _ h1
    · exact List.mem_append_right _ (List.mem_cons_of_mem _ h1)
end
end Go.Proofs.YtbadoihpbemjjaaDoor
