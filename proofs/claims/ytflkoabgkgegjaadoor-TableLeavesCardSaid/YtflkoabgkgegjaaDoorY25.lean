/- Take of a cache, whatever its slabs are. Condition: the cache's state; its pages are used blocks. -/
import Derived.Test.YtflkoabgkgegjaaDoorY22
import Derived.Test.YtflkoabgkgegjaaDoorY24
/- Take of a cache, whatever its slabs are. Condition: the cache's state; its pages are used blocks. -/
namespace Go.Proofs.YtflkoabgkgegjaaDoor
section
open Go.RowKit Go.Maps
variable {W w w' : World} {K : List (Nat × Obj)} {c b size M top n : Nat} {l : List Tl} {P : List Pg}

/-- what Take of a cache does: the page that has room first; else a new page, or none -/
inductive TakeS (top M size : Nat) (l : List Tl) (P : List Pg) : Int → Int → List Tl → List Pg → Prop
  | old (P1 P2 : List Pg) (p : Pg) (i : Nat) (hP : P = P1 ++ p :: P2) (hf : ∀ x ∈ P1, FullP M x) (hi : FirstS false M p.ws 0 (i : Int)) (him : i < M) : TakeS top M size l P ((1024 * p.q + 64 + i * size : Nat) : Int) 0 l (P1 ++ { p with ws := setL true M p.ws [(i : Int)] } :: P2)
  | none (hf : ∀ x ∈ P, FullP M x) (hc : takeC top l 0 = (0, 4, l)) : TakeS top M size l P 0 4 l P
  | new (hf : ∀ x ∈ P, FullP M x) (q k : Nat) (a d : List Tl) (hl : l = a ++ (k, true) :: d) (hq : q = span a) (hc : takeC top l 0 = (((1024 * q : Nat) : Int), 0, takeT 0 k a d)) (i : Nat) (hi : i ≤ P.length) (hpo : PlaceOf P ((1024 * q : Nat) : Int) i) (p : Pg) (hp : p.q = q) (hw : p.ws = freshW M) : TakeS top M size l P ((1024 * q + 64 : Nat) : Int) 0 (takeT 0 k a d) (P.take i ++ p :: P.drop i)
theorem room_split (M : Nat) : ∀ P : List Pg, (∀ x ∈ P, FullP M x) ∨ ∃ P1 p P2 i, P = P1 ++ p :: P2 ∧ (∀ x ∈ P1, FullP M x) ∧ FirstS false M p.ws 0 ((i : Nat) : Int) ∧ i < M
  | [] => .inl fun x hx => absurd hx List.not_mem_nil
  | p :: P => by
    by_cases h : FullP M p
    · rcases room_split M P with h1 | ⟨P1, q, P2, i, rfl, h1, h2, h3⟩
      · exact .inl fun x hx => by
          rcases List.mem_cons.1 hx with rfl | hx
          · exact h
          · exact h1 x hx
      · exact .inr ⟨p :: P1, q, P2, i, rfl, fun x hx => by
          rcases List.mem_cons.1 hx with rfl | hx
          · exact h
          · exact h1 x hx, h2, h3⟩
    · have key : ∀ n, n ≤ M → (∀ i, i < n → bitW p.ws i = true) ∨ ∃ i, i < n ∧ bitW p.ws i ≠ true ∧ ∀ j, j < i → bitW p.ws j = true := by
        intro n
        induction n with
        | zero => intro _; exact .inl fun i hi => absurd hi (Nat.not_lt_zero _)
        | succ n ih =>
          intro hn
          rcases ih (by omega) with h1 | ⟨i, h1, h2, h3⟩
          · by_cases hb : bitW p.ws n = true
            · exact .inl fun i hi => by
                by_cases e : i = n
                · subst e; exact hb
                · exact h1 i (by omega)
            · exact .inr ⟨n, Nat.lt_succ_self _, hb, h1⟩
          · exact .inr ⟨i, by omega, h2, h3⟩
      rcases key M (Nat.le_refl _) with h1 | ⟨i, h1, h2, h3⟩
      · exact absurd h1 h
      · exact .inr ⟨[], p, P, i, rfl, fun x hx => absurd hx List.not_mem_nil, .inr ⟨i, rfl, Nat.zero_le _, h1, by simpa using h2, fun j _ hj => by rw [h3 j hj]; decide⟩, h1⟩
theorem take_zero (top : Nat) (l : List Tl) : takeC top l 0 = (0, 4, l) ∨ ∃ k a d, l = a ++ (k, true) :: d ∧ takeC top l 0 = (((1024 * span a : Nat) : Int), 0, takeT 0 k a d) := by
  unfold takeC
  rw [if_neg (by omega)]
  cases hb : best (0 : Int).toNat l with
  | none => exact .inl rfl
  | some k =>
    obtain ⟨h1, h2, _⟩ := best_some hb
    exact .inr ⟨k, _, _, (splitC_spec h2).1, rfl⟩
theorem free_not_used {l a d : List Tl} {k q : Nat} (hl : l = a ++ (k, true) :: d) (h : (q, 0) ∈ blks false 0 l) : q ≠ span a := fun e => by
  obtain ⟨a2, d2, hl2, hs⟩ := blks_mem h
  simp only [Nat.zero_add] at hs
  rw [hl] at hl2
  have := (tile_one hl2 (by omega)).2.1
  cases this
theorem take_s (h : SG W K w c b size M top n l P) (hT : TabZ W) (hn : n < 1000) (hs : 16 ≤ size) (hs2 : size ≤ 512) (hM : M = 960 / size) (hl : Lay top M l P) :
    Calls Tryd.prog 27 #[.pointer (some ⟨c, 0, none⟩)] w fun e w' => ∃ at_ er l' P', e = .returned (.tuple #[.int .i64 at_, .int .i64 er]) ∧ TakeS top M size l P at_ er l' P' ∧ SG W K w' c b size M top (n + 1) l' P' := by
  obtain ⟨m1, m2⟩ := size_many hs hs2 hM
  have hsm := hl.small h.good h.tle
  have hsh := hl.short h.good h.tle h.rise
  have hrise := h.rise
  have hgood := h.good
  have htle := h.tle
  have hp20 : 2 ^ top ≤ 2 ^ 20 := Nat.pow_le_pow_right (by decide) htle
  obtain ⟨gm, gw, mu, A, cap, h⟩ := h
  rcases room_split M P with hf | ⟨P1, p, P2, i, hP, hf, hi, him⟩
  · rcases take_zero top l with hc | ⟨k, a, d, hld, hc⟩
    · exact (take_none h hT hn hf hsh 0 l hc).mono fun e w' ⟨he, h2⟩ => ⟨0, 4, l, P, he, .none hf hc, gm, gw, mu, A, cap, h2⟩
    · obtain ⟨q, hq⟩ : ∃ q, q = span a := ⟨_, rfl⟩
      rw [← hq] at hc
      have hqn : ∀ x ∈ P, x.q ≠ q := fun x hx => by rw [hq]; exact free_not_used hld (hl.mem x hx)
      have hq20 : q < 1048576 := by
        have h1 := hgood.all
        rw [hld, span_append, span] at h1
        simp only at h1
        have := two_pos k
        omega
      obtain ⟨i, ok, hpo, hok⟩ := hrise.place q
      have hlen : P.length < 1048576 ∨ P.length = 1048576 := by omega
      have hlt : P.length < 1048576 := by
        rcases hlen with h1 | h1
        · exact h1
        · exfalso
          have h3 : (⟨q, 0, 0, []⟩ : Pg).q = q := rfl
          have h4 : (P.take i ++ (⟨q, 0, 0, []⟩ : Pg) :: P.drop i).length ≤ 1048576 := by
            refine rise_len ?_ ?_
            · have h5 : (P.take i ++ P.drop i).Pairwise fun x y => x.q < y.q := by rw [List.take_append_drop]; exact hrise
              unfold RisesQ
              rw [List.pairwise_append] at h5 ⊢
              refine ⟨h5.1, List.pairwise_cons.2 ⟨fun x hx => ?_, h5.2.1⟩, fun x hx y hy => ?_⟩
              · obtain ⟨k2, hk2, rfl⟩ := List.getElem_of_mem hx
                rw [List.length_drop] at hk2
                rw [List.getElem_drop]
                have h1 := hpo.hi (i + k2) (by omega) (by omega)
                have h3 := hqn P[i + k2] (List.getElem_mem _)
                show q < P[i + k2].q
                omega
              · rcases List.mem_cons.1 hy with rfl | hy
                · obtain ⟨k2, hk2, rfl⟩ := List.getElem_of_mem hx
                  rw [List.length_take] at hk2
                  rw [List.getElem_take]
                  have := hpo.lo k2 (by omega) (by omega)
                  show P[k2].q < q
                  omega
                · exact h5.2.2 x hx y hy
            · intro x hx
              rcases List.mem_append.1 hx with hx | hx
              · exact hsm x (List.mem_of_mem_take hx)
              · rcases List.mem_cons.1 hx with rfl | hx
                · exact hq20
                · exact hsm x (List.mem_of_mem_drop hx)
          rw [List.length_append, List.length_cons, List.length_take, List.length_drop] at h4
          have := hpo.le
          omega
      by_cases hin : i < P.length
      · refine (take_mid h hT hn hf hlt hs hs2 hM q hq20 i hin _ rfl hpo hqn _ hc _ rfl).mono ?_
        rintro e w' ⟨he, A', cap', p, hp, hw, h2⟩
        exact ⟨_, 0, _, _, he, .new hf q k a d hld hq hc i (Nat.le_of_lt hin) hpo p hp hw, gm, gw, mu, A', cap', h2⟩
      · have hie : i = P.length := by have := hpo.le; omega
        refine (take_new h hT hn hf hlt hs hs2 hM q hq20 (fun x hx => ?_) _ rfl _ hc _ rfl).mono ?_
        · obtain ⟨k2, hk2, rfl⟩ := List.getElem_of_mem hx
          have := hpo.lo k2 hk2 (by omega)
          omega
        · rintro e w' ⟨he, A', cap', p, hp, hw, h2⟩
          refine ⟨_, 0, _, _, he, .new hf q k a d hld hq hc i (by omega) hpo p hp hw, gm, gw, mu, A', cap', ?_⟩
          rw [hie, List.take_length, List.drop_length]
          exact h2
  · refine (take_old h hT P1 P2 p hP hf i hi him hs2 m2 hsm hsh _ rfl _ rfl).mono ?_
    rintro e w' ⟨he, h2⟩
    exact ⟨_, 0, l, _, he, .old P1 P2 p i hP hf hi him, gm, gw, mu, A, cap, h2.monon (Nat.le_succ _)⟩
end
section
variable {top M size : Nat} {l l' : List Tl} {P P' : List Pg} {at_ er : Int}

theorem fresh_bit {M i : Nat} (hi : i < M) : bitW (freshW M) i = decide (i = 0) := by
  rw [freshW, bitW_setL i [0] (WF_new M), bitW_new]
  by_cases q0 : i = 0
  · subst q0
    rw [if_pos ⟨by simp, hi⟩]; rfl
  · rw [if_neg (fun hc => q0 (by have := List.mem_singleton.1 hc.1; omega)), decide_eq_false q0]
theorem used_take {k : Nat} {a d : List Tl} : blks false 0 (takeT 0 k a d) = blks false 0 a ++ (span a, 0) :: blks false (span a + 2 ^ k) d := take_used a d (Nat.zero_le k)
theorem used_free {k : Nat} {a d : List Tl} : blks false 0 (a ++ (k, true) :: d) = blks false 0 a ++ blks false (span a + 2 ^ k) d := blks_used false a d k (by decide)
/-- used blocks stay, and at most one comes -/
theorem TakeS.blocks (h : TakeS top M size l P at_ er l' P') : ∀ x ∈ blks false 0 l, x ∈ blks false 0 l' := by
  cases h with
  | old => exact fun x hx => hx
  | none => exact fun x hx => hx
  | new hf q k a d hl hq hc i hi hpo p hp hw =>
    intro x hx
    rw [hl, used_free] at hx
    rw [used_take]
    rcases List.mem_append.1 hx with hx | hx
    · exact List.mem_append_left _ hx
    · exact List.mem_append_right _ (List.mem_cons_of_mem _ hx)
/-- a page is an elder one, or was free -/
theorem TakeS.pages (h : TakeS top M size l P at_ er l' P') : ∀ x ∈ P', (∃ y ∈ P, y.q = x.q ∧ y.gw = x.gw) ∨ ∀ k, (x.q, k) ∉ blks false 0 l := by
  cases h with
  | old P1 P2 p i hP hf hi him =>
    intro x hx
    left
    rcases List.mem_append.1 hx with hx | hx
    · exact ⟨x, by rw [hP]; simp [hx], rfl, rfl⟩
    · rcases List.mem_cons.1 hx with rfl | hx
      · exact ⟨p, by rw [hP]; simp, rfl, rfl⟩
      · exact ⟨x, by rw [hP]; simp [hx], rfl, rfl⟩
  | none => exact fun x hx => .inl ⟨x, hx, rfl, rfl⟩
  | new hf q k a d hl hq hc i hi hpo p hp hw =>
    intro x hx
    rcases List.mem_append.1 hx with hx | hx
    · exact .inl ⟨x, List.mem_of_mem_take hx, rfl, rfl⟩
    · rcases List.mem_cons.1 hx with rfl | hx
      · right
        intro k2 hm
        obtain ⟨a2, d2, hl2, hs⟩ := blks_mem hm
        simp only [Nat.zero_add] at hs
        rw [hl] at hl2
        have := (tile_one hl2 (by omega)).2.1
        cases this
      · exact .inl ⟨x, List.mem_of_mem_drop hx, rfl, rfl⟩
theorem TakeS.lay (h : TakeS top M size l P at_ er l' P') (hl : Lay top M l P) (hwf : ∀ p ∈ P, WF M p.ws) (hM : 0 < M) : Lay top M l' P' := by
  have hb := h.blocks
  cases h with
  | old P1 P2 p i hP hf hi him =>
    refine ⟨fun x hx => ?_, fun x hx => ?_⟩
    · rcases List.mem_append.1 hx with hx | hx
      · exact hl.mem x (by rw [hP]; simp [hx])
      · rcases List.mem_cons.1 hx with rfl | hx
        · exact hl.mem p (by rw [hP]; simp)
        · exact hl.mem x (by rw [hP]; simp [hx])
    · rcases List.mem_append.1 hx with hx | hx
      · exact hl.some x (by rw [hP]; simp [hx])
      · rcases List.mem_cons.1 hx with rfl | hx
        · exact ⟨i, him, by rw [bitW_setL i _ (hwf p (by rw [hP]; simp)), if_pos ⟨by simp, him⟩]⟩
        · exact hl.some x (by rw [hP]; simp [hx])
  | none => exact hl
  | new hf q k a d hld hq hc i hi hpo p hp hw =>
    refine ⟨fun x hx => ?_, fun x hx => ?_⟩
    · rcases List.mem_append.1 hx with hx | hx
      · exact hb _ (hl.mem x (List.mem_of_mem_take hx))
      · rcases List.mem_cons.1 hx with rfl | hx
        · rw [used_take, hp, hq]
          exact List.mem_append_right _ List.mem_cons_self
        · exact hb _ (hl.mem x (List.mem_of_mem_drop hx))
    · rcases List.mem_append.1 hx with hx | hx
      · exact hl.some x (List.mem_of_mem_take hx)
      · rcases List.mem_cons.1 hx with rfl | hx
        · exact ⟨0, hM, by rw [hw, fresh_bit hM]; rfl⟩
        · exact hl.some x (List.mem_of_mem_drop hx)
/-- the used places behind a taking -/
theorem TakeS.used (h : TakeS top M size l P at_ er l' P') (hl : Lay top M l P) (hr : RisesQ P) (hwf : ∀ p ∈ P, WF M p.ws) (hM : M = 960 / size) (hs : 0 < size) (h0 : 0 < M) : (er = 4 ∧ at_ = 0 ∧ P' = P ∧ l' = l) ∨ er = 0 ∧ at_ ∉ usedC M size P ∧ ∀ y, y ∈ usedC M size P' ↔ y ∈ usedC M size P ∨ y = at_ := by
  have hone : ∀ {q1 q2 i1 i2 : Nat}, i1 < M → i2 < M → ((1024 * q1 + 64 + i1 * size : Nat) : Int) = ((1024 * q2 + 64 + i2 * size : Nat) : Int) → q1 = q2 ∧ i1 = i2 := fun {q1 q2 i1 i2} h1 h2 e => by
    have e1 := place_mod (q := q1) hM hs h1
    have e2 := place_mod (q := q2) hM hs h2
    have e3 : 1024 * q1 + 64 + i1 * size = 1024 * q2 + 64 + i2 * size := by omega
    rw [e3] at e1
    have e4 : 64 + i1 * size = 64 + i2 * size := e1.2.1.symm.trans e2.2.1
    have e5 := e1.2.2.2
    rw [e4] at e5
    exact ⟨e1.1.symm.trans e2.1, e5.symm.trans e2.2.2.2⟩
  cases h with
  | none => exact .inl ⟨rfl, rfl, rfl, rfl⟩
  | old P1 P2 p i hP hf hi him =>
    right
    have hpw := hwf p (by rw [hP]; simp)
    have hfree : bitW p.ws i = false := by
      rcases hi with ⟨h1, _⟩ | ⟨k, h1, _, _, h2, _⟩
      · omega
      · have : k = i := by omega
        rw [← this]; exact h2
    have hbit : ∀ j, j < M → bitW (setL true M p.ws [(i : Int)]) j = if j = i then true else bitW p.ws j := fun j hj => by
      rw [bitW_setL j _ hpw]
      by_cases e : j = i
      · subst e; rw [if_pos ⟨by simp, hj⟩, if_pos rfl]
      · rw [if_neg (fun hc => e (by have := List.mem_singleton.1 hc.1; omega)), if_neg e]
    have hq1 : ∀ x ∈ P, x.q = p.q → x = p := fun x hx e => by
      rw [hP] at hx hr
      unfold RisesQ at hr
      rw [List.pairwise_append, List.pairwise_cons] at hr
      rcases List.mem_append.1 hx with hx | hx
      · have := hr.2.2 x hx p List.mem_cons_self
        omega
      · rcases List.mem_cons.1 hx with hx | hx
        · exact hx
        · have := hr.2.1.1 x hx
          omega
    refine ⟨rfl, fun hm => ?_, fun y => ?_⟩
    · obtain ⟨x, hx, j, hj, hb, e⟩ := mem_usedC.1 hm
      obtain ⟨e1, rfl⟩ := hone him hj e
      rw [hq1 x hx e1.symm, hfree] at hb
      cases hb
    · rw [mem_usedC, mem_usedC]
      constructor
      · rintro ⟨x, hx, j, hj, hb, rfl⟩
        rcases List.mem_append.1 hx with hx | hx
        · exact .inl ⟨x, by rw [hP]; simp [hx], j, hj, hb, rfl⟩
        · rcases List.mem_cons.1 hx with rfl | hx
          · by_cases e : j = i
            · subst e; exact .inr rfl
            · rw [hbit j hj, if_neg e] at hb
              exact .inl ⟨p, by rw [hP]; simp, j, hj, hb, rfl⟩
          · exact .inl ⟨x, by rw [hP]; simp [hx], j, hj, hb, rfl⟩
      · rintro (⟨x, hx, j, hj, hb, rfl⟩ | rfl)
        · rw [hP] at hx
          rcases List.mem_append.1 hx with hx | hx
          · exact ⟨x, by simp [hx], j, hj, hb, rfl⟩
          · rcases List.mem_cons.1 hx with rfl | hx
            · exact ⟨_, List.mem_append_right _ List.mem_cons_self, j, hj, (by
                rw [hbit j hj]
                by_cases e : j = i
                · rw [if_pos e]
                · rw [if_neg e]; exact hb), rfl⟩
            · exact ⟨x, by simp [hx], j, hj, hb, rfl⟩
        · exact ⟨_, List.mem_append_right _ List.mem_cons_self, i, him, by rw [hbit i him, if_pos rfl], rfl⟩
  | new hf q k a d hld hq hc i hi hpo p hp hw =>
    right
    have hqn : ∀ x ∈ P, x.q ≠ q := fun x hx => by rw [hq]; exact free_not_used hld (hl.mem x hx)
    have e0 : ((1024 * q + 64 : Nat) : Int) = ((1024 * q + 64 + 0 * size : Nat) : Int) := by rw [Nat.zero_mul, Nat.add_zero]
    refine ⟨rfl, fun hm => ?_, fun y => ?_⟩
    · obtain ⟨x, hx, j, hj, hb, e⟩ := mem_usedC.1 hm
      rw [e0] at e
      exact hqn x hx (hone h0 hj e).1.symm
    · rw [mem_usedC, mem_usedC]
      constructor
      · rintro ⟨x, hx, j, hj, hb, rfl⟩
        rcases List.mem_append.1 hx with hx | hx
        · exact .inl ⟨x, List.mem_of_mem_take hx, j, hj, hb, rfl⟩
        · rcases List.mem_cons.1 hx with rfl | hx
          · rw [hw, fresh_bit hj, decide_eq_true_iff] at hb
            subst hb
            right
            rw [hp, Nat.zero_mul, Nat.add_zero]
          · exact .inl ⟨x, List.mem_of_mem_drop hx, j, hj, hb, rfl⟩
      · rintro (⟨x, hx, j, hj, hb, rfl⟩ | rfl)
        · have hx2 : x ∈ P.take i ++ P.drop i := by rw [List.take_append_drop]; exact hx
          rcases List.mem_append.1 hx2 with hx | hx
          · exact ⟨x, List.mem_append_left _ hx, j, hj, hb, rfl⟩
          · exact ⟨x, List.mem_append_right _ (List.mem_cons_of_mem _ hx), j, hj, hb, rfl⟩
        · exact ⟨p, List.mem_append_right _ List.mem_cons_self, 0, h0, by rw [hw, fresh_bit h0]; rfl, by rw [hp, Nat.zero_mul, Nat.add_zero]⟩
end
end Go.Proofs.YtflkoabgkgegjaaDoor
