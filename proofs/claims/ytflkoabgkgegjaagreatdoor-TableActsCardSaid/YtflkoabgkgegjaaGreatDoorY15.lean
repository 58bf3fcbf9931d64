/- Taking alone: the contract. The document's example holds. Condition: the table of TrailingZeros64. -/
import Derived.Test.YtflkoabgkgegjaaGreatDoorY14
/- Taking alone: the contract. The document's example holds. Condition: the table of TrailingZeros64. -/
namespace Go.Proofs.YtflkoabgkgegjaaGreatDoor
open Go.RowKit Go.Maps
variable {W w w' : World} {K : List (Nat × Obj)} {c b size M top n : Nat} {l : List Tl} {P : List Pg}

theorem SGx.monon {gm gw : Nat → Nat} {mu n' : Nat} {A : Option Addr} {cap : Nat} (h : SGx W K w c b size M top gm gw mu n l A cap P) (hn : n ≤ n') : SGx W K w c b size M top gm gw mu n' l A cap P :=
  ⟨h.bg.mono hn, h.row, h.own, h.maps, h.gws, h.rise, h.cnew, h.pnew, h.sep, h.kept, h.knc, h.kgw, h.kpg, h.kA⟩
theorem tk_lay {top M t : Nat} {l : List Tl} {P : List Pg} (hM : 0 < M) (hk : TK M t P) (hl : TL P.length l) : Lay top M l P := ⟨fun p hp => by
    obtain ⟨k, hk2, rfl⟩ := List.getElem_of_mem hp
    rw [tl_used hl, List.mem_map]
    exact ⟨k, List.mem_range.2 hk2, by rw [hk.q k hk2]⟩, fun p hp => by
    obtain ⟨k, hk2, rfl⟩ := List.getElem_of_mem hp
    refine ⟨0, hM, ?_⟩
    rw [hk.bit k hk2 0 hM]
    have h1 := hk.len
    have h2 := Nat.div_add_mod (t + M - 1) M
    have h3 : M * (k + 1) ≤ M * ((t + M - 1) / M) := Nat.mul_le_mul_left _ (by omega)
    rw [Nat.mul_add, Nat.mul_one] at h3
    have h4 := Nat.mod_lt (t + M - 1) hM
    exact decide_eq_true (by omega)⟩
theorem tl_lt {top m : Nat} {l : List Tl} (h : TL m l) (hg : Good top l) (hf : ¬ ∀ x ∈ l, x.2 = false) : m < 2 ^ top := by
  obtain ⟨F, rfl, h1, _⟩ := h
  have hs := hg.all
  rw [span_append, span_rep] at hs
  cases F with
  | nil => exact absurd (fun x hx => by rw [List.append_nil] at hx; rw [(List.mem_replicate.1 hx).2]) hf
  | cons t F =>
    have := two_pos t.1
    rw [span] at hs
    omega
theorem none_free {top : Nat} {l : List Tl} (h : ∀ x ∈ l, x.2 = false) : takeC top l 0 = (0, 4, l) := TakeR.eq (.inr ⟨0, rfl, Nat.zero_le _, .inl ⟨fun x hx => (by
    obtain ⟨a, b, e, _⟩ := blks_mem hx
    have h2 := h (x.2, true) (by rw [e]; simp)
    cases h2), rfl, rfl, rfl⟩⟩)
theorem size_many {size M : Nat} (h1 : 16 ≤ size) (h2 : size ≤ 512) (hM : M = 960 / size) : 0 < M ∧ M ≤ 60 := by
  subst hM
  have : 960 / size ≤ 960 / 16 := Nat.div_le_div_left h1 (by omega)
  exact ⟨Nat.div_pos (by omega) (by omega), by omega⟩
theorem take_tk (h : SG W K w c b size M top n l P) (hT : TabZ W) (hn : n < 1000) (hs : 16 ≤ size) (hs2 : size ≤ 512) (hM : M = 960 / size) (t : Nat) (hk : TK M t P) (hl : TL P.length l) :
    Calls Tryz.prog 49 #[.pointer (some ⟨c, 0, none⟩)] w fun e w' =>
      (e = .returned (.tuple #[.int .i64 (atC M size t), .int .i64 0]) ∧ ∃ l' P', SG W K w' c b size M top (n + 1) l' P' ∧ TK M (t + 1) P' ∧ TL P'.length l' ∧ ¬ (t % M = 0 ∧ ∀ x ∈ l, x.2 = false)) ∨
      (e = .returned (.tuple #[.int .i64 0, .int .i64 4]) ∧ t % M = 0 ∧ (∀ x ∈ l, x.2 = false) ∧ SG W K w' c b size M top (n + 1) l P) := by
  obtain ⟨m1, m2⟩ := size_many hs hs2 hM
  have hlay := tk_lay (top := top) m1 hk hl
  have hgood := h.good
  have htle := h.tle
  have hsm := hlay.small hgood htle
  have hsh := hlay.short hgood htle h.rise
  have hwf := h.wf
  have hp20 : 2 ^ top ≤ 2 ^ 20 := Nat.pow_le_pow_right (by decide) htle
  obtain ⟨gm, gw, mu, A, cap, h⟩ := h
  obtain ⟨d, hd⟩ : ∃ d, t / M = d := ⟨_, rfl⟩
  obtain ⟨r, hr⟩ : ∃ r, t % M = r := ⟨_, rfl⟩
  have ht : t = M * d + r := by rw [← hd, ← hr]; exact (Nat.div_add_mod t M).symm
  have hrM : r < M := by rw [← hr]; exact Nat.mod_lt _ m1
  have hat : atC M size t = ((1024 * d + 64 + r * size : Nat) : Int) := by rw [atC, hd, hr]
  by_cases q : r = 0
  · subst q
    obtain ⟨e1, e2, e3, e4⟩ := tk_new m1 hk (d := d) (by omega)
    by_cases hf : ∀ x ∈ l, x.2 = false
    · refine (take_none h hT hn e2 hsh 0 l (none_free hf)).mono ?_
      rintro e w' ⟨he, h2⟩
      exact .inr ⟨he, hr, hf, gm, gw, mu, A, cap, h2⟩
    · have hlt := tl_lt hl hgood hf
      rcases tl_take (top := top) hl with ⟨_, hc⟩ | ⟨l', hc, hl'⟩
      · exact absurd hc hf
      · rw [e1] at hc
        refine (take_new h hT hn e2 (by omega) hs hs2 hM d (by omega) e3 _ rfl l' hc (atC M size t) (by rw [hat, Nat.zero_mul, Nat.add_zero])).mono ?_
        rintro e w' ⟨he, A', cap', p, hp, hw, h2⟩
        exact .inl ⟨he, l', P ++ [p], ⟨gm, gw, mu, A', cap', h2⟩, e4 p hp hw, by rw [List.length_append]; exact hl', fun hc => hf hc.2⟩
  · obtain ⟨P1, p, hP, hpq, hfull, hfst, hk'⟩ := tk_old m1 hk hwf ht hrM q
    refine (take_old h hT P1 [] p hP hfull r hfst hrM hs2 m2 hsm hsh (atC M size t) (by rw [hat, hpq]) _ rfl).mono ?_
    rintro e w' ⟨he, h2⟩
    exact .inl ⟨he, l, _, ⟨gm, gw, mu, A, cap, h2.monon (Nat.le_succ _)⟩, hk', by
      have : (P1 ++ [({ p with ws := setL true M p.ws [(r : Int)] } : Pg)]).length = P.length := by rw [hP]; simp
      rw [this]; exact hl, fun hc => q (by rw [← hr]; exact hc.1)⟩
/-- New of 65536 bytes or more, and a cache -/
theorem empty_used (M size : Nat) : usedC M size [] = [] := rfl
theorem lay_nil (top M : Nat) (l : List Tl) : Lay top M l [] := ⟨fun p hp => absurd hp List.not_mem_nil, fun p hp => absurd hp List.not_mem_nil⟩
theorem lay_empty {top M size : Nat} {l : List Tl} {P : List Pg} (h : Lay top M l P) (hu : ∀ y, y ∉ usedC M size P) : P = [] := by
  cases P with
  | nil => rfl
  | cons p P =>
    obtain ⟨i, hi, hb⟩ := h.some p List.mem_cons_self
    exact absurd (mem_usedC.2 ⟨p, List.mem_cons_self, i, hi, hb, rfl⟩) (hu _)
theorem split_one {x : Nat × Nat} : ∀ {a b c d : List (Nat × Nat)}, Rises (a ++ x :: b) → a ++ x :: b = c ++ x :: d → a = c ∧ b = d
  | [], b, [], d, _, h => ⟨rfl, by simpa using h⟩
  | [], b, y :: c, d, hr, h => by
    simp only [List.nil_append, List.cons_append, List.cons.injEq] at h
    obtain ⟨rfl, rfl⟩ := h
    unfold Rises at hr
    rw [List.nil_append, List.pairwise_cons] at hr
    have := hr.1 x (by simp)
    omega
  | y :: a, b, [], d, hr, h => by
    simp only [List.nil_append, List.cons_append, List.cons.injEq] at h
    obtain ⟨rfl, rfl⟩ := h
    unfold Rises at hr
    rw [List.cons_append, List.pairwise_cons] at hr
    have := hr.1 y (by simp)
    omega
  | y :: a, b, z :: c, d, hr, h => by
    simp only [List.cons_append, List.cons.injEq] at h
    unfold Rises at hr
    rw [List.cons_append, List.pairwise_cons] at hr
    obtain ⟨e1, e2⟩ := split_one (a := a) (c := c) hr.2 h.2
    exact ⟨by rw [h.1, e1], e2⟩
/-- the used blocks are the pages -/
def UP (l : List Tl) (P : List Pg) : Prop := blks false 0 l = P.map fun p => (p.q, 0)
theorem tk_up {M t : Nat} {l : List Tl} {P : List Pg} (hk : TK M t P) (hl : TL P.length l) : UP l P := by
  unfold UP
  rw [tl_used hl]
  apply List.ext_getElem
  · simp
  · intro i h1 h2
    have h3 : i < P.length := by simpa using h2
    simp [hk.q i h3]
theorem rises_map {P : List Pg} (h : RisesQ P) : Rises (P.map fun p => (p.q, 0)) := by
  unfold Rises
  rw [List.pairwise_map]
  exact h
theorem up_give {top : Nat} {l l' : List Tl} {P P' : List Pg} (h : UP l P) (hr : RisesQ P)
    (hc : (l' = l ∧ P'.map Pg.q = P.map Pg.q) ∨ ∃ P1 p P2, P = P1 ++ p :: P2 ∧ P' = P1 ++ P2 ∧ ∃ a d, l = a ++ (0, false) :: d ∧ p.q = span a ∧ l' = melt top a.reverse 0 d) : UP l' P' := by
  rcases hc with ⟨rfl, e⟩ | ⟨P1, p, P2, rfl, rfl, a, d, rfl, hp, rfl⟩
  · unfold UP at h ⊢
    rw [h]
    have : ∀ Q : List Pg, (Q.map fun p => (p.q, 0)) = (Q.map Pg.q).map fun q => (q, 0) := fun Q => by rw [List.map_map]; rfl
    rw [this, this, e]
  · unfold UP at h ⊢
    rw [melt_used, List.reverse_reverse, span_rev]
    rw [blks_same, List.map_append, List.map_cons] at h
    have hr2 := rises_map hr
    rw [List.map_append, List.map_cons, ← h] at hr2
    have e := split_one (x := (span a, 0)) hr2 (h.trans (by rw [hp]))
    rw [List.map_append, ← e.1, ← e.2]
theorem up_nil {top : Nat} {l : List Tl} (h : UP l []) (hg : Good top l) : l = [(top, true)] := good_free hg fun t ht => by
  obtain ⟨k, f⟩ := t
  cases f with
  | true => rfl
  | false =>
    obtain ⟨a, d, rfl⟩ := List.append_of_mem ht
    have := blks_at false 0 a d k
    unfold UP at h
    rw [h] at this
    cases this
theorem SGx.hold {gm gw : Nat → Nat} {mu : Nat} {A : Option Addr} {cap : Nat} (h : SGx W K w c b size M top gm gw mu n l A cap P) {g : Nat} {cs : Array Value} {t : TypeId} (hg : w.heap[g]? = some (.cells cs t (0, 0))) (h1 : t ≠ 27) (h2 : t ≠ 140) (h3 : t ≠ 133) : SGx W ((g, .cells cs t (0, 0)) :: K) w c b size M top gm gw mu n l A cap P :=
  ⟨h.bg, h.row, h.own, h.maps, h.gws, h.rise, h.cnew, h.pnew, h.sep, fun x hx => by
    rcases List.mem_cons.1 hx with rfl | hx
    · exact hg
    · exact h.kept x hx, fun x hx => by
    rcases List.mem_cons.1 hx with rfl | hx
    · exact ⟨two_types hg h.row h3, h.bg.not_mu hg⟩
    · exact h.knc x hx, fun x hx => by
    rcases List.mem_cons.1 hx with rfl | hx
    · exact h.bg.not_gw hg h1
    · exact h.kgw x hx, fun x hx p hp => by
    rcases List.mem_cons.1 hx with rfl | hx
    · exact two_types hg (h.maps p hp).2.1 h1
    · exact h.kpg x hx p hp, fun x hx e => by
    rcases List.mem_cons.1 hx with rfl | hx
    · obtain ⟨ds, hd⟩ := h.rowne e
      exact two_types hg hd h2 rfl
    · exact h.kA x hx e⟩
theorem SGx.sub {gm gw : Nat → Nat} {mu : Nat} {A : Option Addr} {cap : Nat} {K' : List (Nat × Obj)} (h : SGx W K w c b size M top gm gw mu n l A cap P) (hk : ∀ x ∈ K', x ∈ K) : SGx W K' w c b size M top gm gw mu n l A cap P :=
  ⟨h.bg, h.row, h.own, h.maps, h.gws, h.rise, h.cnew, h.pnew, h.sep, fun x hx => h.kept x (hk x hx), fun x hx => h.knc x (hk x hx), fun x hx => h.kgw x (hk x hx), fun x hx => h.kpg x (hk x hx), fun x hx => h.kA x (hk x hx)⟩
theorem u8_size (s : Nat) (hs : s ≤ 255) (S : Int) (hS : (s : Int) = S) : ∃ (R Q Z : Int) (size : Nat), IntKind.i64.wrap S = S ∧ S.tmod 32 = R ∧ IntKind.i64.wrap (16 * R) = Q ∧ IntKind.i64.wrap (16 + Q) = Z ∧ Z = (size : Int) ∧ 16 ≤ size ∧ size ≤ 512 ∧ (size : Int).tmod 16 = 0 ∧ size = 16 + 16 * (s % 32) := by
  refine ⟨((s % 32 : Nat) : Int), ((16 * (s % 32) : Nat) : Int), ((16 + 16 * (s % 32) : Nat) : Int), 16 + 16 * (s % 32), ?_, ?_, ?_, ?_, rfl, by omega, by omega, ?_, rfl⟩
  · rw [IntKind.wrap_i64]; omega
  · rw [← hS, Int.tmod_eq_emod_of_nonneg (by omega)]; rfl
  · rw [IntKind.wrap_i64]; omega
  · rw [IntKind.wrap_i64]; omega
  · rw [Int.tmod_eq_emod_of_nonneg (by omega)]; omega
end Go.Proofs.YtflkoabgkgegjaaGreatDoor
