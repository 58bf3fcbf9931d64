/- The plain law of taking alone: the places. No condition. And what follows from it. -/
import Derived.Test.YtflkoabgkgegjaaGreatDoorY13
/- The plain law of taking alone: the places. No condition. -/
namespace Go.Proofs.YtflkoabgkgegjaaGreatDoor

theorem div_is {M d x : Nat} (h0 : 0 < M) (h1 : M * d ≤ x) (h2 : x < M * d + M) : x / M = d := by
  rw [show x = (x - M * d) + M * d by omega, Nat.add_mul_div_left _ _ h0, Nat.div_eq_of_lt (by omega)]
  omega
/-- the place of a taking -/
def atC (M size t : Nat) : Int := ((1024 * (t / M) + 64 + t % M * size : Nat) : Int)
/-- behind so many takings -/
structure TK (M t : Nat) (P : List Pg) : Prop where
  len : P.length = (t + M - 1) / M
  q : ∀ k (h : k < P.length), P[k].q = k
  bit : ∀ k (h : k < P.length) i, i < M → bitW P[k].ws i = decide (M * k + i < t)
theorem tk_start (M : Nat) (h : 0 < M) : TK M 0 [] := ⟨by rw [Nat.zero_add, Nat.div_eq_of_lt (by omega)]; rfl, fun k h => absurd h (Nat.not_lt_zero _), fun k h => absurd h (Nat.not_lt_zero _)⟩
theorem filter_lt (a t : Nat) : ∀ M, (List.range M).filter (fun i => decide (a + i < t)) = List.range (min M (t - a))
  | 0 => by simp
  | M + 1 => by
    rw [List.range_succ, List.filter_append, filter_lt a t M]
    by_cases h : a + M < t
    · rw [show min (M + 1) (t - a) = min M (t - a) + 1 by omega, List.range_succ, show min M (t - a) = M by omega]
      simp [h]
    · rw [show min (M + 1) (t - a) = min M (t - a) by omega]
      simp [h]
theorem tk_used {M t size : Nat} {P : List Pg} (hM : 0 < M) (h : TK M t P) : usedC M size P = (List.range t).map (atC M size) := by
  have key : ∀ k, k ≤ P.length → usedC M size (P.take k) = (List.range (min (M * k) t)).map (atC M size) := by
    intro k
    induction k with
    | zero => intro _; simp [usedC]
    | succ k ih =>
      intro hk
      have hkl : k < P.length := by omega
      rw [usedC_take M size P k hkl, ih (by omega)]
      have e : usedB size P[k] M = (List.range (min M (t - M * k))).map fun i => atC M size (M * k + i) := by
        unfold usedB
        rw [← filter_lt]
        have e2 : (List.range M).filter (fun i => bitW P[k].ws i) = (List.range M).filter (fun i => decide (M * k + i < t)) := List.filter_congr fun i hi => h.bit k hkl i (List.mem_range.1 hi)
        rw [e2]
        refine List.map_congr_left fun i hi => ?_
        have hi2 : i < M := List.mem_range.1 (List.mem_filter.1 hi).1
        unfold atC
        rw [h.q k hkl, div_is hM (by omega) (by omega) (d := k), Nat.mul_add_mod, Nat.mod_eq_of_lt hi2]
      rw [e]
      have e3 : min (M * (k + 1)) t = min (M * k) t + min M (t - M * k) := by rw [Nat.mul_add, Nat.mul_one]; omega
      rw [e3, List.range_add, List.map_append, List.map_map]
      congr 1
      by_cases q : M * k ≤ t
      · rw [show min (M * k) t = M * k by omega]
        rfl
      · rw [show min M (t - M * k) = 0 by omega]
        rfl
  have h1 := key P.length (Nat.le_refl _)
  rw [List.take_length] at h1
  rw [h1]
  have h2 : t ≤ M * P.length := by
    rw [h.len]
    have := Nat.div_add_mod (t + M - 1) M
    have := Nat.mod_lt (t + M - 1) hM
    omega
  rw [show min (M * P.length) t = t by omega]
theorem tk_len {M t d r : Nat} (hM : 0 < M) (ht : t = M * d + r) (hr : r < M) : (t + M - 1) / M = if r = 0 then d else d + 1 := by
  by_cases q : r = 0
  · rw [if_pos q]
    exact div_is hM (by omega) (by omega)
  · rw [if_neg q]
    exact div_is hM (by rw [Nat.mul_add, Nat.mul_one]; omega) (by rw [Nat.mul_add, Nat.mul_one]; omega)
theorem tk_new {M t d : Nat} {P : List Pg} (hM : 0 < M) (h : TK M t P) (ht : t = M * d) : P.length = d ∧ (∀ x ∈ P, FullP M x) ∧ (∀ x ∈ P, x.q < d) ∧ ∀ p : Pg, p.q = d → p.ws = freshW M → TK M (t + 1) (P ++ [p]) := by
  have hl : P.length = d := by
    rw [h.len, tk_len hM (r := 0) (by omega) hM, if_pos rfl]
  refine ⟨hl, fun x hx i hi => ?_, fun x hx => ?_, fun p hp hw => ⟨?_, fun k hk => ?_, fun k hk i hi => ?_⟩⟩
  · obtain ⟨k, hk, rfl⟩ := List.getElem_of_mem hx
    rw [h.bit k hk i hi]
    have : M * (k + 1) ≤ M * d := Nat.mul_le_mul_left _ (by omega)
    rw [Nat.mul_add, Nat.mul_one] at this
    exact decide_eq_true (by omega)
  · obtain ⟨k, hk, rfl⟩ := List.getElem_of_mem hx
    rw [h.q k hk]
    omega
  · rw [List.length_append, hl]
    exact (div_is hM (by rw [List.length_singleton, Nat.mul_add, Nat.mul_one]; omega) (by rw [List.length_singleton, Nat.mul_add, Nat.mul_one]; omega)).symm
  · by_cases q : k < P.length
    · rw [List.getElem_append_left q]; exact h.q k q
    · have e : k = P.length := by rw [List.length_append, List.length_singleton] at hk; omega
      subst e
      rw [List.getElem_append_right (Nat.le_refl _)]
      simp only [Nat.sub_self, List.getElem_singleton]
      omega
  · by_cases q : k < P.length
    · rw [List.getElem_append_left q, h.bit k q i hi]
      have : M * (k + 1) ≤ M * d := Nat.mul_le_mul_left _ (by omega)
      rw [Nat.mul_add, Nat.mul_one] at this
      rw [decide_eq_true (by omega), decide_eq_true (by omega)]
    · have e : k = P.length := by rw [List.length_append, List.length_singleton] at hk; omega
      subst e
      rw [List.getElem_append_right (Nat.le_refl _)]
      simp only [Nat.sub_self, List.getElem_singleton]
      rw [hw, freshW, bitW_setL i [0] (WF_new M), bitW_new, hl, ht]
      by_cases q0 : i = 0
      · subst q0
        rw [if_pos ⟨by simp, hM⟩, decide_eq_true (by omega)]
      · rw [if_neg (fun hc => q0 (by have := List.mem_singleton.1 hc.1; omega)), decide_eq_false (by omega)]
theorem tk_old {M t d r : Nat} {P : List Pg} (hM : 0 < M) (h : TK M t P) (hw : ∀ p ∈ P, WF M p.ws) (ht : t = M * d + r) (hr : r < M) (hr0 : r ≠ 0) : ∃ P1 p, P = P1 ++ [p] ∧ p.q = d ∧ (∀ x ∈ P1, FullP M x) ∧ FirstS false M p.ws 0 (r : Int) ∧ TK M (t + 1) (P1 ++ [{ p with ws := setL true M p.ws [(r : Int)] }]) := by
  have hl : P.length = d + 1 := by rw [h.len, tk_len hM ht hr, if_neg hr0]
  have hne : P ≠ [] := fun e => by rw [e] at hl; simp at hl
  obtain ⟨P1, p, rfl⟩ : ∃ P1 p, P = P1 ++ [p] := ⟨P.dropLast, P.getLast hne, (List.dropLast_concat_getLast hne).symm⟩
  have hl1 : P1.length = d := by rw [List.length_append, List.length_singleton] at hl; omega
  have hp : (P1 ++ [p])[d]'(by omega) = p := by
    rw [List.getElem_append_right (by omega)]
    simp [hl1]
  have hb : ∀ i, i < M → bitW p.ws i = decide (i < r) := fun i hi => by
    have := h.bit d (by omega) i hi
    rw [hp] at this
    rw [this, ht]
    congr 1
    exact propext ⟨fun h => by omega, fun h => by omega⟩
  refine ⟨P1, p, rfl, ?_, fun x hx i hi => ?_, .inr ⟨r, rfl, Nat.zero_le _, hr, by rw [hb r hr]; exact decide_eq_false (by omega), fun i _ hi => by rw [hb i (by omega), decide_eq_true hi]; decide⟩, ⟨?_, fun k hk => ?_, fun k hk i hi => ?_⟩⟩
  · have := h.q d (by omega)
    rw [hp] at this
    exact this
  · obtain ⟨k, hk, rfl⟩ := List.getElem_of_mem hx
    have := h.bit k (by rw [List.length_append]; omega) i hi
    rw [List.getElem_append_left hk] at this
    rw [this]
    have : M * (k + 1) ≤ M * d := Nat.mul_le_mul_left _ (by omega)
    rw [Nat.mul_add, Nat.mul_one] at this
    exact decide_eq_true (by omega)
  · rw [List.length_append, hl1, List.length_singleton]
    exact (div_is hM (by rw [Nat.mul_add, Nat.mul_one]; omega) (by rw [Nat.mul_add, Nat.mul_one]; omega)).symm
  · by_cases q : k < P1.length
    · rw [List.getElem_append_left q]
      have := h.q k (by rw [List.length_append]; omega)
      rw [List.getElem_append_left q] at this
      exact this
    · have e : k = P1.length := by rw [List.length_append, List.length_singleton] at hk; omega
      subst e
      rw [List.getElem_append_right (Nat.le_refl _)]
      simp only [Nat.sub_self, List.getElem_singleton]
      have := h.q P1.length (by rw [List.length_append, List.length_singleton]; omega)
      rw [List.getElem_append_right (Nat.le_refl _)] at this
      simpa using this
  · by_cases q : k < P1.length
    · rw [List.getElem_append_left q]
      have := h.bit k (by rw [List.length_append]; omega) i hi
      rw [List.getElem_append_left q] at this
      rw [this]
      have : M * (k + 1) ≤ M * d := Nat.mul_le_mul_left _ (by omega)
      rw [Nat.mul_add, Nat.mul_one] at this
      rw [decide_eq_true (by omega), decide_eq_true (by omega)]
    · have e : k = P1.length := by rw [List.length_append, List.length_singleton] at hk; omega
      subst e
      rw [List.getElem_append_right (Nat.le_refl _)]
      simp only [Nat.sub_self, List.getElem_singleton]
      rw [bitW_setL i _ (hw p (by simp)), hb i hi, hl1, ht]
      by_cases q0 : i = r
      · subst q0
        rw [if_pos ⟨by simp, hi⟩, decide_eq_true (by omega)]
      · rw [if_neg (fun hc => q0 (by have := List.mem_singleton.1 hc.1; omega))]
        congr 1
        exact propext ⟨fun h => by omega, fun h => by omega⟩
theorem atC_inj {M size s t : Nat} (hM : M = 960 / size) (hs : 0 < size) (h0 : 0 < M) (h : atC M size s = atC M size t) : s = t := by
  unfold atC at h
  have h1 := place_mod (q := s / M) hM hs (Nat.mod_lt s h0)
  have h2 := place_mod (q := t / M) hM hs (Nat.mod_lt t h0)
  have e : 1024 * (s / M) + 64 + s % M * size = 1024 * (t / M) + 64 + t % M * size := by omega
  rw [e] at h1
  have e1 : s / M = t / M := h1.1.symm.trans h2.1
  have e3 : 64 + s % M * size = 64 + t % M * size := h1.2.1.symm.trans h2.2.1
  have e2 : s % M = t % M := by
    have := h1.2.2.2
    rw [e3] at this
    exact this.symm.trans h2.2.2.2
  rw [← Nat.div_add_mod s M, ← Nat.div_add_mod t M, e1, e2]
end Go.Proofs.YtflkoabgkgegjaaGreatDoor
/- A cache over an allocator, its blocks unnamed: the contracts. Condition: its state. -/
namespace Go.Proofs.YtflkoabgkgegjaaGreatDoor
open Go.RowKit Go.Maps

def SG (W : World) (K : List (Nat × Obj)) (w : World) (c b size M top n : Nat) (l : List Tl) (P : List Pg) : Prop := ∃ gm gw mu A cap, SGx W K w c b size M top gm gw mu n l A cap P
variable {W w w' : World} {K : List (Nat × Obj)} {c b size M top n : Nat} {l : List Tl} {P : List Pg}
theorem SG.below (h : SG W K w c b size M top n l P) (hb : Below w.heap.size w w') : SG W K w' c b size M top n l P := by
  obtain ⟨gm, gw, mu, A, cap, h⟩ := h
  exact ⟨gm, gw, mu, A, cap, h.below hb⟩
theorem SG.way (h : SG W K w c b size M top n l P) : Below W.heap.size W w := by
  obtain ⟨gm, gw, mu, A, cap, h⟩ := h
  exact h.bg.way
theorem SG.good (h : SG W K w c b size M top n l P) : Good top l := by
  obtain ⟨gm, gw, mu, A, cap, h⟩ := h
  exact h.bg.good
theorem SG.tle (h : SG W K w c b size M top n l P) : top ≤ 20 := by
  obtain ⟨gm, gw, mu, A, cap, h⟩ := h
  exact h.bg.tle
theorem SG.wf (h : SG W K w c b size M top n l P) : ∀ p ∈ P, WF M p.ws := by
  obtain ⟨gm, gw, mu, A, cap, h⟩ := h
  exact fun p hp => (h.maps p hp).2.2.1
theorem SG.rise (h : SG W K w c b size M top n l P) : RisesQ P := by
  obtain ⟨gm, gw, mu, A, cap, h⟩ := h
  exact h.rise
theorem SG.c1 (h : SG W K w c b size M top n l P) : w.cell? ⟨c, 1, none⟩ = some (.int .i64 (size : Int)) := by
  obtain ⟨gm, gw, mu, A, cap, h⟩ := h
  exact h.c1
theorem new_s (top : Nat) (gm gw : Nat → Nat) (mu : Nat) (h : BG w W [] w b top gm gw mu n l) (h1 : 16 ≤ size) (h2 : size ≤ 512) (h3 : (size : Int).tmod 16 = 0) (M : Nat) (S : Int) (hS : S = (size : Int)) :
    Calls Tryz.prog 43 #[.pointer (some ⟨b, 0, none⟩), .int .i64 S] w fun e w' => ∃ c, e = .returned (.pointer (some ⟨c, 0, none⟩)) ∧ SG W [] w' c b size M top n l [] := by
  subst hS
  refine (snew_yes b size (by omega) (by omega) h3 w).mono ?_
  rintro e w' ⟨rfl, rfl⟩
  refine ⟨_, rfl, gm, gw, mu, none, 0, (h.below ((Below.refl _ w).alloc (Nat.le_refl _) _)).rebase, heap_alloc_new w _, World.ownsRow_nil _ _ _ _, fun p hp => absurd hp List.not_mem_nil, List.Pairwise.nil, List.Pairwise.nil, h.way.size, fun p hp => absurd hp List.not_mem_nil, fun p hp => absurd hp List.not_mem_nil, fun p hp => absurd hp List.not_mem_nil, fun p hp => absurd hp List.not_mem_nil, fun p hp => absurd hp List.not_mem_nil, fun p hp => absurd hp List.not_mem_nil, fun p hp => absurd hp List.not_mem_nil⟩
theorem many_s (h : SG W K w c b size M top n l P) (hs : 16 ≤ size) (hM : M = 960 / size) (S : Int) (hS : S = (M : Int)) : Calls Tryz.prog 72 #[.pointer (some ⟨c, 0, none⟩)] w fun e w' => e = .returned (.int .i64 S) ∧ w' = w := by
  subst hS
  exact smany_any c size M w hs hM h.c1
/-- the pages are used blocks -/
structure Lay (top M : Nat) (l : List Tl) (P : List Pg) : Prop where
  mem : ∀ p ∈ P, (p.q, 0) ∈ blks false 0 l
  some : ∀ p ∈ P, ∃ i, i < M ∧ bitW p.ws i = true
theorem used_lt {top : Nat} {l : List Tl} (hg : Good top l) (ht : top ≤ 20) {q k : Nat} {f : Bool} (h : (q, k) ∈ blks f 0 l) : q < 1048576 := by
  have h1 := (blks_lt h).2
  have h2 := two_pos k
  have h3 : 2 ^ top ≤ 2 ^ 20 := Nat.pow_le_pow_right (by decide) ht
  rw [hg.all] at h1
  simp only at h1
  omega
theorem rise_len : ∀ {P : List Pg}, RisesQ P → ∀ {B : Nat}, (∀ p ∈ P, p.q < B) → P.length ≤ B
  | [], _, _, _ => Nat.zero_le _
  | p :: P, h, B, hb => by
    have key : ∀ (P : List Pg) (lo : Nat), RisesQ P → (∀ p ∈ P, lo ≤ p.q ∧ p.q < B) → P.length ≤ B - lo := by
      intro P
      induction P with
      | nil => intro lo _ _; exact Nat.zero_le _
      | cons p P ih =>
        intro lo hr hb
        obtain ⟨h1, h2⟩ := List.pairwise_cons.1 hr
        have h3 := ih (p.q + 1) h2 (fun x hx => ⟨h1 x hx, (hb x (List.mem_cons_of_mem _ hx)).2⟩)
        have h4 := hb p List.mem_cons_self
        rw [List.length_cons]
        omega
    exact key (p :: P) 0 h fun x hx => ⟨Nat.zero_le _, hb x hx⟩
theorem Lay.small {top M : Nat} {l : List Tl} {P : List Pg} (h : Lay top M l P) (hg : Good top l) (ht : top ≤ 20) : ∀ p ∈ P, p.q < 1048576 := fun p hp => used_lt hg ht (h.mem p hp)
theorem Lay.short {top M : Nat} {l : List Tl} {P : List Pg} (h : Lay top M l P) (hg : Good top l) (ht : top ≤ 20) (hr : RisesQ P) : P.length ≤ 1048576 := rise_len hr (h.small hg ht)
theorem has_s (h : SG W K w c b size M top n l P) (hl : Lay top M l P) (hs : 0 < size) (hs2 : size ≤ 512) (hM : M = 960 / size) (X : Int) (hX : (Lit.int .i64 X).wf = true) (r : Bool) (hr : r = true ↔ X ∈ usedC M size P) :
    Calls Tryz.prog 64 #[.pointer (some ⟨c, 0, none⟩), .int .i64 X] w fun e w' => e = .returned (.bool r) ∧ SG W K w' c b size M top n l P := by
  have hsh := hl.short h.good h.tle h.rise
  have hsm := hl.small h.good h.tle
  obtain ⟨gm, gw, mu, A, cap, h⟩ := h
  by_cases q : X ∈ usedC M size P
  · exact (has_yes h hsh hs hs2 hM hsm X q).mono fun e w' ⟨he, hb⟩ => ⟨by rw [he, hr.2 q], gm, gw, mu, A, cap, h.below hb⟩
  · exact (has_no h hsh hs hs2 X hX q).mono fun e w' ⟨he, hb⟩ => ⟨by rw [he, show r = false from Bool.eq_false_iff.2 fun e => q (hr.1 e)], gm, gw, mu, A, cap, h.below hb⟩
theorem giveno_s (h : SG W K w c b size M top n l P) (hl : Lay top M l P) (hs : 0 < size) (hs2 : size ≤ 512) (X : Int) (hX : (Lit.int .i64 X).wf = true) (hno : X ∉ usedC M size P) :
    Calls Tryz.prog 60 #[.pointer (some ⟨c, 0, none⟩), .int .i64 X] w fun e w' => e = .returned (.int .i64 6) ∧ SG W K w' c b size M top n l P := by
  have hsh := hl.short h.good h.tle h.rise
  obtain ⟨gm, gw, mu, A, cap, h⟩ := h
  exact (sgive_no h hsh hs hs2 X hX hno).mono fun e w' ⟨he, hb⟩ => ⟨he, gm, gw, mu, A, cap, h.below hb⟩
/-- what giving a used place back does -/
theorem giveyes_s (h : SG W K w c b size M top n l P) (hl : Lay top M l P) (hs : 0 < size) (hs2 : size ≤ 512) (hM : M = 960 / size) (X : Int) (hX : X ∈ usedC M size P) :
    Calls Tryz.prog 60 #[.pointer (some ⟨c, 0, none⟩), .int .i64 X] w fun e w' => e = .returned (.int .i64 0) ∧ ∃ l' P', SG W K w' c b size M top n l' P' ∧ Lay top M l' P' ∧ (∀ y, y ∈ usedC M size P' ↔ y ∈ usedC M size P ∧ y ≠ X) ∧
      ((l' = l ∧ P'.map Pg.q = P.map Pg.q) ∨ ∃ P1 p P2, P = P1 ++ p :: P2 ∧ P' = P1 ++ P2 ∧ ∃ a d, l = a ++ (0, false) :: d ∧ p.q = span a ∧ l' = melt top a.reverse 0 d) := by
  obtain ⟨p, hp, j, hj, hb, hx⟩ := mem_usedC.1 hX
  obtain ⟨P1, P2, hP⟩ := List.append_of_mem hp
  have hsh := hl.short h.good h.tle h.rise
  have hsm := hl.small h.good h.tle
  have hwf := h.wf p hp
  have hgood := h.good
  have hrise := h.rise
  obtain ⟨gm, gw, mu, A, cap, h⟩ := h
  obtain ⟨a, d, hld, hsp⟩ := blks_mem (hl.mem p hp)
  simp only [Nat.zero_add] at hsp
  have hgr : GiveR top l ((1024 * p.q : Nat) : Int) 0 (melt top a.reverse 0 d) := .inr ⟨0, a, d, hld, by rw [hsp]; omega, rfl, rfl⟩
  have hws : ∀ i, i < M → bitW (setL false M p.ws [(j : Int)]) i = (bitW p.ws i && decide (i ≠ j)) := fun i hi => by
    rw [bitW_setL i _ hwf]
    by_cases q : i = j
    · subst q; rw [if_pos ⟨by simp, hi⟩]; simp
    · rw [if_neg (fun hc => q (by have := List.mem_singleton.1 hc.1; omega))]; simp [q]
  have hM1 : 0 < M := by omega
  -- places of other pages
  have other : ∀ x ∈ P1 ++ P2, ∀ i, i < M → ((1024 * x.q + 64 + i * size : Nat) : Int) ≠ X := fun x hx2 i hi e => by
    have hq : x.q ≠ p.q := by
      rw [hP] at hrise
      obtain ⟨_, h2, h3⟩ := List.pairwise_append.1 hrise
      rcases List.mem_append.1 hx2 with h4 | h4
      · have := h3 x h4 p List.mem_cons_self
        omega
      · have := (List.pairwise_cons.1 h2).1 x h4
        omega
    have e1 := place_mod (q := x.q) hM hs hi
    have e2 := place_mod (q := p.q) hM hs hj
    rw [hx] at e
    have e3 : 1024 * x.q + 64 + i * size = 1024 * p.q + 64 + j * size := by omega
    rw [e3] at e1
    exact hq (e1.1.symm.trans e2.1)
  have same : ∀ i, i < M → (((1024 * p.q + 64 + i * size : Nat) : Int) = X ↔ i = j) := fun i hi => ⟨fun e => by
    have e1 := place_mod (q := p.q) hM hs hi
    have e2 := place_mod (q := p.q) hM hs hj
    rw [hx] at e
    have e3 : 1024 * p.q + 64 + i * size = 1024 * p.q + 64 + j * size := by omega
    rw [e3] at e1
    have e4 : 64 + i * size = 64 + j * size := by omega
    have := e1.2.2.2
    rw [e4] at this
    exact this.symm.trans e2.2.2.2, fun e => by rw [e, hx]⟩
  refine (sgive_yes h hsh hs hs2 hM P1 P2 p hP (hsm p hp) j hj hb X hx _ rfl 0 _ hgr.eq).mono ?_
  rintro e w' ⟨he, hcase⟩
  refine ⟨he, ?_⟩
  rcases hcase with ⟨hne, h2⟩ | ⟨hz, h2⟩
  · refine ⟨l, _, ⟨gm, gw, mu, A, cap, h2⟩, ⟨fun x hx2 => ?_, fun x hx2 => ?_⟩, fun y => ?_, .inl ⟨rfl, ?_⟩⟩
    · rcases List.mem_append.1 hx2 with h4 | h4
      · exact hl.mem x (by rw [hP]; simp [h4])
      · rcases List.mem_cons.1 h4 with rfl | h4
        · exact hl.mem p hp
        · exact hl.mem x (by rw [hP]; simp [h4])
    · rcases List.mem_append.1 hx2 with h4 | h4
      · exact hl.some x (by rw [hP]; simp [h4])
      · rcases List.mem_cons.1 h4 with rfl | h4
        · obtain ⟨i, hi, hb2⟩ := (popL_pos (WF_setL [(j : Int)] hwf)).1 (Nat.pos_of_ne_zero hne)
          exact ⟨i, hi, hb2⟩
        · exact hl.some x (by rw [hP]; simp [h4])
    · rw [mem_usedC, mem_usedC]
      constructor
      · rintro ⟨x, hx2, i, hi, hb2, rfl⟩
        rcases List.mem_append.1 hx2 with h4 | h4
        · exact ⟨⟨x, by rw [hP]; simp [h4], i, hi, hb2, rfl⟩, other x (by simp [h4]) i hi⟩
        · rcases List.mem_cons.1 h4 with rfl | h4
          · rw [hws i hi, Bool.and_eq_true, decide_eq_true_iff] at hb2
            exact ⟨⟨p, hp, i, hi, hb2.1, rfl⟩, fun e => hb2.2 ((same i hi).1 e)⟩
          · exact ⟨⟨x, by rw [hP]; simp [h4], i, hi, hb2, rfl⟩, other x (by simp [h4]) i hi⟩
      · rintro ⟨⟨x, hx2, i, hi, hb2, rfl⟩, hy⟩
        rw [hP] at hx2
        rcases List.mem_append.1 hx2 with h4 | h4
        · exact ⟨x, by simp [h4], i, hi, hb2, rfl⟩
        · rcases List.mem_cons.1 h4 with rfl | h4
          · exact ⟨_, List.mem_append_right _ List.mem_cons_self, i, hi, by rw [hws i hi, hb2, Bool.true_and, decide_eq_true_iff]; exact fun e => hy ((same i hi).2 e), rfl⟩
          · exact ⟨x, by simp [h4], i, hi, hb2, rfl⟩
    · rw [hP]; simp
  · have hone : ∀ i, i < M → bitW p.ws i = true → i = j := fun i hi hb2 => by
      have := popL_zero hz i
      rw [hws i hi, hb2, Bool.true_and, decide_eq_false_iff_not] at this
      exact Decidable.not_not.1 this
    have hbl : ∀ x, x ∈ blks false 0 (melt top a.reverse 0 d) ↔ x ∈ blks false 0 l ∧ x ≠ (p.q, 0) := fun x => by
      rw [melt_used, List.reverse_reverse, span_rev, hld, blks_same]
      have hnd := blks_rise false 0 (a ++ (0, false) :: d)
      rw [blks_same] at hnd
      unfold Rises at hnd
      rw [List.pairwise_append, List.pairwise_cons] at hnd
      simp only [List.mem_append, List.mem_cons]
      constructor
      · rintro (h4 | h4)
        · refine ⟨.inl h4, fun e => ?_⟩
          have := hnd.2.2 x h4 (span a, 0) List.mem_cons_self
          rw [e, hsp] at this
          simp at this
        · refine ⟨.inr (.inr h4), fun e => ?_⟩
          have := hnd.2.1.1 x h4
          rw [e, hsp] at this
          simp at this
      · rintro ⟨h4 | h4 | h4, hne⟩
        · exact .inl h4
        · exact absurd (by rw [h4, hsp]) hne
        · exact .inr h4
    refine ⟨_, _, ⟨gm, gw, mu, A, cap, h2⟩, ⟨fun x hx2 => ?_, fun x hx2 => hl.some x (by rw [hP]; rcases List.mem_append.1 hx2 with h4 | h4 <;> simp [h4])⟩, fun y => ?_, .inr ⟨P1, p, P2, hP, rfl, a, d, hld, hsp, rfl⟩⟩
    · rw [hbl]
      refine ⟨hl.mem x (by rw [hP]; rcases List.mem_append.1 hx2 with h4 | h4 <;> simp [h4]), fun e => ?_⟩
      injection e with e
      rw [hP] at hrise
      obtain ⟨_, h5, h6⟩ := List.pairwise_append.1 hrise
      rcases List.mem_append.1 hx2 with h4 | h4
      · have := h6 x h4 p List.mem_cons_self
        omega
      · have := (List.pairwise_cons.1 h5).1 x h4
        omega
    · rw [mem_usedC, mem_usedC]
      constructor
      · rintro ⟨x, hx2, i, hi, hb2, rfl⟩
        exact ⟨⟨x, by rw [hP]; rcases List.mem_append.1 hx2 with h4 | h4 <;> simp [h4], i, hi, hb2, rfl⟩, other x hx2 i hi⟩
      · rintro ⟨⟨x, hx2, i, hi, hb2, rfl⟩, hy⟩
        rw [hP] at hx2
        rcases List.mem_append.1 hx2 with h4 | h4
        · exact ⟨x, by simp [h4], i, hi, hb2, rfl⟩
        · rcases List.mem_cons.1 h4 with rfl | h4
          · exact absurd ((same i hi).2 (hone i hi hb2)) hy
          · exact ⟨x, by simp [h4], i, hi, hb2, rfl⟩
end Go.Proofs.YtflkoabgkgegjaaGreatDoor
