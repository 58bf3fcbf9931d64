/- Take of a cache, whatever its slabs are. Condition: the cache's state; its pages are used blocks. And what follows from it. -/
import Derived.Test.YtflkoabgkgegjaaGreatDoorY15
import Derived.Test.YtflkoabgkgegjaaGreatDoorY17
/- Take of a cache, whatever its slabs are. Condition: the cache's state; its pages are used blocks. -/
namespace Go.Proofs.YtflkoabgkgegjaaGreatDoor
section
open Go.RowKit Go.Maps
variable {W w w' : World} {K : List (Nat × Obj)} {c b size M top n : Nat} {l : List Tl} {P : List Pg}

/-- what Take of a cache does: the page that has room first; else a new page, or none -/
inductive TakeS (top M size : Nat) (l : List Tl) (P : List Pg) : Int → Int → List Tl → List Pg → Prop
  | old (P1 P2 : List Pg) (p : Pg) (i : Nat) (hP : P = P1 ++ p :: P2) (hf : ∀ x ∈ P1, FullP M x) (hi : FirstS false M p.ws 0 (i : Int)) (him : i < M) : TakeS top M size l P ((1024 * p.q + 64 + i * size : Nat) : Int) 0 l (P1 ++ { p with ws := setL true M p.ws [(i : Int)] } :: P2)
  | none (hf : ∀ x ∈ P, FullP M x) (hc : takeC top l 0 = (0, 4, l)) : TakeS top M size l P 0 4 l P
  | new (hf : ∀ x ∈ P, FullP M x) (q k : Nat) (a d : List Tl) (hl : l = a ++ (k, true) :: d) (hq : q = span a) (hc : takeC top l 0 = (((1024 * q : Nat) : Int), 0, takeT 0 k a d)) (i : Nat) (hi : i ≤ P.length) (hpo : PlaceOf P ((1024 * q : Nat) : Int) i) (p : Pg) (hp : p.q = q) (hw : p.ws = freshW M) : TakeS top M size l P ((1024 * q + 64 : Nat) : Int) 0 (takeT 0 k a d) (P.take i ++ p :: P.drop i)
theorem room_split (M : Nat) : ∀ P : List Pg, (∀ x ∈ P, FullP M x) ∨ ∃ P1 p P2 i, P = P1 ++ p :: P2 ∧ (∀ x ∈ P1, FullP M x) ∧ FirstS false M p.ws 0 ((i : Nat) : Int) ∧ i < M
  | [] => .inl fun x hx => absurd hx List.not_mem_nil
  | p :: P => by
    by_cases h : FullP M p
    · rcases room_split M P with h1 | ⟨P1, q, P2, i, rfl, h1, h2, h3⟩
      · exact .inl fun x hx => by
          rcases List.mem_cons.1 hx with rfl | hx
          · exact h
          · exact h1 x hx
      · exact .inr ⟨p :: P1, q, P2, i, rfl, fun x hx => by
          rcases List.mem_cons.1 hx with rfl | hx
          · exact h
          · exact h1 x hx, h2, h3⟩
    · have key : ∀ n, n ≤ M → (∀ i, i < n → bitW p.ws i = true) ∨ ∃ i, i < n ∧ bitW p.ws i ≠ true ∧ ∀ j, j < i → bitW p.ws j = true := by
        intro n
        induction n with
        | zero => intro _; exact .inl fun i hi => absurd hi (Nat.not_lt_zero _)
        | succ n ih =>
          intro hn
          rcases ih (by omega) with h1 | ⟨i, h1, h2, h3⟩
          · by_cases hb : bitW p.ws n = true
            · exact .inl fun i hi => by
                by_cases e : i = n
                · subst e; exact hb
                · exact h1 i (by omega)
            · exact .inr ⟨n, Nat.lt_succ_self _, hb, h1⟩
          · exact .inr ⟨i, by omega, h2, h3⟩
      rcases key M (Nat.le_refl _) with h1 | ⟨i, h1, h2, h3⟩
      · exact absurd h1 h
      · exact .inr ⟨[], p, P, i, rfl, fun x hx => absurd hx List.not_mem_nil, .inr ⟨i, rfl, Nat.zero_le _, h1, by simpa using h2, fun j _ hj => by rw [h3 j hj]; decide⟩, h1⟩
theorem take_zero (top : Nat) (l : List Tl) : takeC top l 0 = (0, 4, l) ∨ ∃ k a d, l = a ++ (k, true) :: d ∧ takeC top l 0 = (((1024 * span a : Nat) : Int), 0, takeT 0 k a d) := by
  unfold takeC
  rw [if_neg (by omega)]
  cases hb : best (0 : Int).toNat l with
  | none => exact .inl rfl
  | some k =>
    obtain ⟨h1, h2, _⟩ := best_some hb
    exact .inr ⟨k, _, _, (splitC_spec h2).1, rfl⟩
theorem free_not_used {l a d : List Tl} {k q : Nat} (hl : l = a ++ (k, true) :: d) (h : (q, 0) ∈ blks false 0 l) : q ≠ span a := fun e => by
  obtain ⟨a2, d2, hl2, hs⟩ := blks_mem h
  simp only [Nat.zero_add] at hs
  rw [hl] at hl2
  have := (tile_one hl2 (by omega)).2.1
  cases this
theorem take_s (h : SG W K w c b size M top n l P) (hT : TabZ W) (hn : n < 1000) (hs : 16 ≤ size) (hs2 : size ≤ 512) (hM : M = 960 / size) (hl : Lay top M l P) :
    Calls Tryz.prog 49 #[.pointer (some ⟨c, 0, none⟩)] w fun e w' => ∃ at_ er l' P', e = .returned (.tuple #[.int .i64 at_, .int .i64 er]) ∧ TakeS top M size l P at_ er l' P' ∧ SG W K w' c b size M top (n + 1) l' P' := by
  obtain ⟨m1, m2⟩ := size_many hs hs2 hM
  have hsm := hl.small h.good h.tle
  have hsh := hl.short h.good h.tle h.rise
  have hrise := h.rise
  have hgood := h.good
  have htle := h.tle
  have hp20 : 2 ^ top ≤ 2 ^ 20 := Nat.pow_le_pow_right (by decide) htle
  obtain ⟨gm, gw, mu, A, cap, h⟩ := h
  rcases room_split M P with hf | ⟨P1, p, P2, i, hP, hf, hi, him⟩
  · rcases take_zero top l with hc | ⟨k, a, d, hld, hc⟩
    · exact (take_none h hT hn hf hsh 0 l hc).mono fun e w' ⟨he, h2⟩ => ⟨0, 4, l, P, he, .none hf hc, gm, gw, mu, A, cap, h2⟩
    · obtain ⟨q, hq⟩ : ∃ q, q = span a := ⟨_, rfl⟩
      rw [← hq] at hc
      have hqn : ∀ x ∈ P, x.q ≠ q := fun x hx => by rw [hq]; exact free_not_used hld (hl.mem x hx)
      have hq20 : q < 1048576 := by
        have h1 := hgood.all
        rw [hld, span_append, span] at h1
        simp only at h1
        have := two_pos k
        omega
      obtain ⟨i, ok, hpo, hok⟩ := hrise.place q
      have hlen : P.length < 1048576 ∨ P.length = 1048576 := by omega
      have hlt : P.length < 1048576 := by
        rcases hlen with h1 | h1
        · exact h1
        · exfalso
          have h3 : (⟨q, 0, 0, []⟩ : Pg).q = q := rfl
          have h4 : (P.take i ++ (⟨q, 0, 0, []⟩ : Pg) :: P.drop i).length ≤ 1048576 := by
            refine rise_len ?_ ?_
            · have h5 : (P.take i ++ P.drop i).Pairwise fun x y => x.q < y.q := by rw [List.take_append_drop]; exact hrise
              unfold RisesQ
              rw [List.pairwise_append] at h5 ⊢
              refine ⟨h5.1, List.pairwise_cons.2 ⟨fun x hx => ?_, h5.2.1⟩, fun x hx y hy => ?_⟩
              · obtain ⟨k2, hk2, rfl⟩ := List.getElem_of_mem hx
                rw [List.length_drop] at hk2
                rw [List.getElem_drop]
                have h1 := hpo.hi (i + k2) (by omega) (by omega)
                have h3 := hqn P[i + k2] (List.getElem_mem _)
                show q < P[i + k2].q
                omega
              · rcases List.mem_cons.1 hy with rfl | hy
                · obtain ⟨k2, hk2, rfl⟩ := List.getElem_of_mem hx
                  rw [List.length_take] at hk2
                  rw [List.getElem_take]
                  have := hpo.lo k2 (by omega) (by omega)
                  show P[k2].q < q
                  omega
                · exact h5.2.2 x hx y hy
            · intro x hx
              rcases List.mem_append.1 hx with hx | hx
              · exact hsm x (List.mem_of_mem_take hx)
              · rcases List.mem_cons.1 hx with rfl | hx
                · exact hq20
                · exact hsm x (List.mem_of_mem_drop hx)
          rw [List.length_append, List.length_cons, List.length_take, List.length_drop] at h4
          have := hpo.le
          omega
      by_cases hin : i < P.length
      · refine (take_mid h hT hn hf hlt hs hs2 hM q hq20 i hin _ rfl hpo hqn _ hc _ rfl).mono ?_
        rintro e w' ⟨he, A', cap', p, hp, hw, h2⟩
        exact ⟨_, 0, _, _, he, .new hf q k a d hld hq hc i (Nat.le_of_lt hin) hpo p hp hw, gm, gw, mu, A', cap', h2⟩
      · have hie : i = P.length := by have := hpo.le; omega
        refine (take_new h hT hn hf hlt hs hs2 hM q hq20 (fun x hx => ?_) _ rfl _ hc _ rfl).mono ?_
        · obtain ⟨k2, hk2, rfl⟩ := List.getElem_of_mem hx
          have := hpo.lo k2 hk2 (by omega)
          omega
        · rintro e w' ⟨he, A', cap', p, hp, hw, h2⟩
          refine ⟨_, 0, _, _, he, .new hf q k a d hld hq hc i (by omega) hpo p hp hw, gm, gw, mu, A', cap', ?_⟩
          rw [hie, List.take_length, List.drop_length]
          exact h2
  · refine (take_old h hT P1 P2 p hP hf i hi him hs2 m2 hsm hsh _ rfl _ rfl).mono ?_
    rintro e w' ⟨he, h2⟩
    exact ⟨_, 0, l, _, he, .old P1 P2 p i hP hf hi him, gm, gw, mu, A, cap, h2.monon (Nat.le_succ _)⟩
end
section
variable {top M size : Nat} {l l' : List Tl} {P P' : List Pg} {at_ er : Int}

theorem fresh_bit {M i : Nat} (hi : i < M) : bitW (freshW M) i = decide (i = 0) := by
  rw [freshW, bitW_setL i [0] (WF_new M), bitW_new]
  by_cases q0 : i = 0
  · subst q0
    rw [if_pos ⟨by simp, hi⟩]; rfl
  · rw [if_neg (fun hc => q0 (by have := List.mem_singleton.1 hc.1; omega)), decide_eq_false q0]
theorem used_take {k : Nat} {a d : List Tl} : blks false 0 (takeT 0 k a d) = blks false 0 a ++ (span a, 0) :: blks false (span a + 2 ^ k) d := take_used a d (Nat.zero_le k)
theorem used_free {k : Nat} {a d : List Tl} : blks false 0 (a ++ (k, true) :: d) = blks false 0 a ++ blks false (span a + 2 ^ k) d := blks_used false a d k (by decide)
/-- used blocks stay, and at most one comes -/
theorem TakeS.blocks (h : TakeS top M size l P at_ er l' P') : ∀ x ∈ blks false 0 l, x ∈ blks false 0 l' := by
  cases h with
  | old => exact fun x hx => hx
  | none => exact fun x hx => hx
  | new hf q k a d hl hq hc i hi hpo p hp hw =>
    intro x hx
    rw [hl, used_free] at hx
    rw [used_take]
    rcases List.mem_append.1 hx with hx | hx
    · exact List.mem_append_left _ hx
    · exact List.mem_append_right _ (List.mem_cons_of_mem _ hx)
/-- a page is an elder one, or was free -/
theorem TakeS.pages (h : TakeS top M size l P at_ er l' P') : ∀ x ∈ P', (∃ y ∈ P, y.q = x.q ∧ y.gw = x.gw) ∨ ∀ k, (x.q, k) ∉ blks false 0 l := by
  cases h with
  | old P1 P2 p i hP hf hi him =>
    intro x hx
    left
    rcases List.mem_append.1 hx with hx | hx
    · exact ⟨x, by rw [hP]; simp [hx], rfl, rfl⟩
    · rcases List.mem_cons.1 hx with rfl | hx
      · exact ⟨p, by rw [hP]; simp, rfl, rfl⟩
      · exact ⟨x, by rw [hP]; simp [hx], rfl, rfl⟩
  | none => exact fun x hx => .inl ⟨x, hx, rfl, rfl⟩
  | new hf q k a d hl hq hc i hi hpo p hp hw =>
    intro x hx
    rcases List.mem_append.1 hx with hx | hx
    · exact .inl ⟨x, List.mem_of_mem_take hx, rfl, rfl⟩
    · rcases List.mem_cons.1 hx with rfl | hx
      · right
        intro k2 hm
        obtain ⟨a2, d2, hl2, hs⟩ := blks_mem hm
        simp only [Nat.zero_add] at hs
        rw [hl] at hl2
        have := (tile_one hl2 (by omega)).2.1
        cases this
      · exact .inl ⟨x, List.mem_of_mem_drop hx, rfl, rfl⟩
theorem TakeS.lay (h : TakeS top M size l P at_ er l' P') (hl : Lay top M l P) (hwf : ∀ p ∈ P, WF M p.ws) (hM : 0 < M) : Lay top M l' P' := by
  have hb := h.blocks
  cases h with
  | old P1 P2 p i hP hf hi him =>
    refine ⟨fun x hx => ?_, fun x hx => ?_⟩
    · rcases List.mem_append.1 hx with hx | hx
      · exact hl.mem x (by rw [hP]; simp [hx])
      · rcases List.mem_cons.1 hx with rfl | hx
        · exact hl.mem p (by rw [hP]; simp)
        · exact hl.mem x (by rw [hP]; simp [hx])
    · rcases List.mem_append.1 hx with hx | hx
      · exact hl.some x (by rw [hP]; simp [hx])
      · rcases List.mem_cons.1 hx with rfl | hx
        · exact ⟨i, him, by rw [bitW_setL i _ (hwf p (by rw [hP]; simp)), if_pos ⟨by simp, him⟩]⟩
        · exact hl.some x (by rw [hP]; simp [hx])
  | none => exact hl
  | new hf q k a d hld hq hc i hi hpo p hp hw =>
    refine ⟨fun x hx => ?_, fun x hx => ?_⟩
    · rcases List.mem_append.1 hx with hx | hx
      · exact hb _ (hl.mem x (List.mem_of_mem_take hx))
      · rcases List.mem_cons.1 hx with rfl | hx
        · rw [used_take, hp, hq]
          exact List.mem_append_right _ List.mem_cons_self
        · exact hb _ (hl.mem x (List.mem_of_mem_drop hx))
    · rcases List.mem_append.1 hx with hx | hx
      · exact hl.some x (List.mem_of_mem_take hx)
      · rcases List.mem_cons.1 hx with rfl | hx
        · exact ⟨0, hM, by rw [hw, fresh_bit hM]; rfl⟩
        · exact hl.some x (List.mem_of_mem_drop hx)
/-- the used places behind a taking -/
theorem TakeS.used (h : TakeS top M size l P at_ er l' P') (hl : Lay top M l P) (hr : RisesQ P) (hwf : ∀ p ∈ P, WF M p.ws) (hM : M = 960 / size) (hs : 0 < size) (h0 : 0 < M) : (er = 4 ∧ at_ = 0 ∧ P' = P ∧ l' = l) ∨ er = 0 ∧ at_ ∉ usedC M size P ∧ ∀ y, y ∈ usedC M size P' ↔ y ∈ usedC M size P ∨ y = at_ := by
  have hone : ∀ {q1 q2 i1 i2 : Nat}, i1 < M → i2 < M → ((1024 * q1 + 64 + i1 * size : Nat) : Int) = ((1024 * q2 + 64 + i2 * size : Nat) : Int) → q1 = q2 ∧ i1 = i2 := fun {q1 q2 i1 i2} h1 h2 e => by
    have e1 := place_mod (q := q1) hM hs h1
    have e2 := place_mod (q := q2) hM hs h2
    have e3 : 1024 * q1 + 64 + i1 * size = 1024 * q2 + 64 + i2 * size := by omega
    rw [e3] at e1
    have e4 : 64 + i1 * size = 64 + i2 * size := e1.2.1.symm.trans e2.2.1
    have e5 := e1.2.2.2
    rw [e4] at e5
    exact ⟨e1.1.symm.trans e2.1, e5.symm.trans e2.2.2.2⟩
  cases h with
  | none => exact .inl ⟨rfl, rfl, rfl, rfl⟩
  | old P1 P2 p i hP hf hi him =>
    right
    have hpw := hwf p (by rw [hP]; simp)
    have hfree : bitW p.ws i = false := by
      rcases hi with ⟨h1, _⟩ | ⟨k, h1, _, _, h2, _⟩
      · omega
      · have : k = i := by omega
        rw [← this]; exact h2
    have hbit : ∀ j, j < M → bitW (setL true M p.ws [(i : Int)]) j = if j = i then true else bitW p.ws j := fun j hj => by
      rw [bitW_setL j _ hpw]
      by_cases e : j = i
      · subst e; rw [if_pos ⟨by simp, hj⟩, if_pos rfl]
      · rw [if_neg (fun hc => e (by have := List.mem_singleton.1 hc.1; omega)), if_neg e]
    have hq1 : ∀ x ∈ P, x.q = p.q → x = p := fun x hx e => by
      rw [hP] at hx hr
      unfold RisesQ at hr
      rw [List.pairwise_append, List.pairwise_cons] at hr
      rcases List.mem_append.1 hx with hx | hx
      · have := hr.2.2 x hx p List.mem_cons_self
        omega
      · rcases List.mem_cons.1 hx with hx | hx
        · exact hx
        · have := hr.2.1.1 x hx
          omega
    refine ⟨rfl, fun hm => ?_, fun y => ?_⟩
    · obtain ⟨x, hx, j, hj, hb, e⟩ := mem_usedC.1 hm
      obtain ⟨e1, rfl⟩ := hone him hj e
      rw [hq1 x hx e1.symm, hfree] at hb
      cases hb
    · rw [mem_usedC, mem_usedC]
      constructor
      · rintro ⟨x, hx, j, hj, hb, rfl⟩
        rcases List.mem_append.1 hx with hx | hx
        · exact .inl ⟨x, by rw [hP]; simp [hx], j, hj, hb, rfl⟩
        · rcases List.mem_cons.1 hx with rfl | hx
          · by_cases e : j = i
            · subst e; exact .inr rfl
            · rw [hbit j hj, if_neg e] at hb
              exact .inl ⟨p, by rw [hP]; simp, j, hj, hb, rfl⟩
          · exact .inl ⟨x, by rw [hP]; simp [hx], j, hj, hb, rfl⟩
      · rintro (⟨x, hx, j, hj, hb, rfl⟩ | rfl)
        · rw [hP] at hx
          rcases List.mem_append.1 hx with hx | hx
          · exact ⟨x, by simp [hx], j, hj, hb, rfl⟩
          · rcases List.mem_cons.1 hx with rfl | hx
            · exact ⟨_, List.mem_append_right _ List.mem_cons_self, j, hj, (by
                rw [hbit j hj]
                by_cases e : j = i
                · rw [if_pos e]
                · rw [if_neg e]; exact hb), rfl⟩
            · exact ⟨x, by simp [hx], j, hj, hb, rfl⟩
        · exact ⟨_, List.mem_append_right _ List.mem_cons_self, i, him, by rw [hbit i him, if_pos rfl], rfl⟩
  | new hf q k a d hld hq hc i hi hpo p hp hw =>
    right
    have hqn : ∀ x ∈ P, x.q ≠ q := fun x hx => by rw [hq]; exact free_not_used hld (hl.mem x hx)
    have e0 : ((1024 * q + 64 : Nat) : Int) = ((1024 * q + 64 + 0 * size : Nat) : Int) := by rw [Nat.zero_mul, Nat.add_zero]
    refine ⟨rfl, fun hm => ?_, fun y => ?_⟩
    · obtain ⟨x, hx, j, hj, hb, e⟩ := mem_usedC.1 hm
      rw [e0] at e
      exact hqn x hx (hone h0 hj e).1.symm
    · rw [mem_usedC, mem_usedC]
      constructor
      · rintro ⟨x, hx, j, hj, hb, rfl⟩
        rcases List.mem_append.1 hx with hx | hx
        · exact .inl ⟨x, List.mem_of_mem_take hx, j, hj, hb, rfl⟩
        · rcases List.mem_cons.1 hx with rfl | hx
          · rw [hw, fresh_bit hj, decide_eq_true_iff] at hb
            subst hb
            right
            rw [hp, Nat.zero_mul, Nat.add_zero]
          · exact .inl ⟨x, List.mem_of_mem_drop hx, j, hj, hb, rfl⟩
      · rintro (⟨x, hx, j, hj, hb, rfl⟩ | rfl)
        · have hx2 : x ∈ P.take i ++ P.drop i := by rw [List.take_append_drop]; exact hx
          rcases List.mem_append.1 hx2 with hx | hx
          · exact ⟨x, List.mem_append_left _ hx, j, hj, hb, rfl⟩
          · exact ⟨x, List.mem_append_right _ (List.mem_cons_of_mem _ hx), j, hj, hb, rfl⟩
        · exact ⟨p, List.mem_append_right _ List.mem_cons_self, 0, h0, by rw [hw, fresh_bit h0]; rfl, by rw [hp, Nat.zero_mul, Nat.add_zero]⟩
end
end Go.Proofs.YtflkoabgkgegjaaGreatDoor
/- Two caches over one allocator. Condition: their state. -/
namespace Go.Proofs.YtflkoabgkgegjaaGreatDoor
open Go.RowKit Go.Maps
variable {W w w' : World} {c1 c2 b s1 M1 s2 M2 top n : Nat} {l : List Tl} {P1 P2 : List Pg}

def SG2 (W w : World) (c1 c2 b s1 M1 s2 M2 top n : Nat) (l : List Tl) (P1 P2 : List Pg) : Prop := ∃ gm gw mu A1 cap1 A2 cap2, SGx W [] w c1 b s1 M1 top gm gw mu n l A1 cap1 P1 ∧ SGx W [] w c2 b s2 M2 top gm gw mu n l A2 cap2 P2 ∧ c1 ≠ c2 ∧ (∀ p ∈ P1, ∀ q ∈ P2, p.gw ≠ q.gw) ∧ ∀ g, some g = (Value.slice A1 P1.length cap1).ownBlock → some g ≠ (Value.slice A2 P2.length cap2).ownBlock
theorem SG2.swap (h : SG2 W w c1 c2 b s1 M1 s2 M2 top n l P1 P2) : SG2 W w c2 c1 b s2 M2 s1 M1 top n l P2 P1 := by
  obtain ⟨gm, gw, mu, A1, cap1, A2, cap2, h1, h2, h3, h4, h5⟩ := h
  exact ⟨gm, gw, mu, A2, cap2, A1, cap1, h2, h1, h3.symm, fun p hp q hq e => h4 q hq p hp e.symm, fun g e1 e2 => h5 g e2 e1⟩
/-- the one cache is used, the other's blocks are held -/
theorem SG2.one (h : SG2 W w c1 c2 b s1 M1 s2 M2 top n l P1 P2) : ∃ K, SG W K w c1 b s1 M1 top n l P1 ∧ ∀ w' n' l' P', SG W K w' c1 b s1 M1 top n' l' P' → SG2 W w' c1 c2 b s1 M1 s2 M2 top n' l' P' P2 := by
  obtain ⟨gm, gw, mu, A1, cap1, A2, cap2, h1, h2, h3, h4, h5⟩ := h
  obtain ⟨AK, ha1, ha2⟩ : ∃ AK : List (Nat × Obj), (∀ x ∈ AK, ∃ cs, x.2 = .cells cs 140 (0, 0) ∧ w.heap[x.1]? = some x.2 ∧ some x.1 = (Value.slice A2 P2.length cap2).ownBlock) ∧ ∀ g, some g = (Value.slice A2 P2.length cap2).ownBlock → ∃ cs, w.heap[g]? = some (.cells cs 140 (0, 0)) ∧ (g, .cells cs 140 (0, 0)) ∈ AK := by
    cases e : (Value.slice A2 P2.length cap2).ownBlock with
    | none => exact ⟨[], fun x hx => absurd hx List.not_mem_nil, fun g hg => by cases hg⟩
    | some g =>
      obtain ⟨cs, hc⟩ := h2.rowne e.symm
      exact ⟨[(g, .cells cs 140 (0, 0))], fun x hx => by rw [List.mem_singleton.1 hx]; exact ⟨cs, rfl, hc, rfl⟩, fun g2 hg2 => by injection hg2 with hg2; subst hg2; exact ⟨cs, hc, List.mem_singleton.2 rfl⟩⟩
  obtain ⟨K, hK⟩ : ∃ K, K = (c2, Obj.cells (cRow b (s2 : Int) A2 P2.length cap2) 133 (0, 0)) :: (AK ++ P2.flatMap fun p => [(p.gm, Obj.cells #[.int .i64 (M2 : Int), .slice (some ⟨p.gw, 0, none⟩) p.ws.length p.ws.length] 118 (0, 0)), (p.gw, Obj.cells (u64s p.ws).toArray 27 (0, 0))]) := ⟨_, rfl⟩
  have inK : ∀ x ∈ K, x = (c2, Obj.cells (cRow b (s2 : Int) A2 P2.length cap2) 133 (0, 0)) ∨ x ∈ AK ∨ ∃ p ∈ P2, x = (p.gm, Obj.cells #[.int .i64 (M2 : Int), .slice (some ⟨p.gw, 0, none⟩) p.ws.length p.ws.length] 118 (0, 0)) ∨ x = (p.gw, Obj.cells (u64s p.ws).toArray 27 (0, 0)) := fun x hx => by
    rw [hK] at hx
    rcases List.mem_cons.1 hx with hx | hx
    · exact .inl hx
    · rcases List.mem_append.1 hx with hx | hx
      · exact .inr (.inl hx)
      · obtain ⟨p, hp, hx⟩ := List.mem_flatMap.1 hx
        simp only [List.mem_cons, List.not_mem_nil, or_false] at hx
        exact .inr (.inr ⟨p, hp, hx⟩)
  have kRow : (c2, Obj.cells (cRow b (s2 : Int) A2 P2.length cap2) 133 (0, 0)) ∈ K := by rw [hK]; exact List.mem_cons_self
  have kA : ∀ x ∈ AK, x ∈ K := fun x hx => by rw [hK]; exact List.mem_cons_of_mem _ (List.mem_append_left _ hx)
  have kgm : ∀ p ∈ P2, (p.gm, Obj.cells #[.int .i64 (M2 : Int), .slice (some ⟨p.gw, 0, none⟩) p.ws.length p.ws.length] 118 (0, 0)) ∈ K := fun p hp => by
    rw [hK]
    exact List.mem_cons_of_mem _ (List.mem_append_right _ (List.mem_flatMap.2 ⟨p, hp, by simp⟩))
  have kgw : ∀ p ∈ P2, (p.gw, Obj.cells (u64s p.ws).toArray 27 (0, 0)) ∈ K := fun p hp => by
    rw [hK]
    exact List.mem_cons_of_mem _ (List.mem_append_right _ (List.mem_flatMap.2 ⟨p, hp, by simp⟩))
  clear hK
  have hkept : ∀ x ∈ K, w.heap[x.1]? = some x.2 := fun x hx => by
    rcases inK x hx with rfl | hx | ⟨p, hp, rfl | rfl⟩
    · exact h2.row
    · obtain ⟨cs, _, hc, _⟩ := ha1 x hx
      exact hc
    · exact (h2.maps p hp).1
    · exact (h2.maps p hp).2.1
  refine ⟨K, ⟨gm, gw, mu, A1, cap1, h1.bg, h1.row, h1.own, h1.maps, h1.gws, h1.rise, h1.cnew, h1.pnew, h1.sep, hkept, fun x hx => ?_, fun x hx k hk => ?_, fun x hx p hp => ?_, fun x hx e => ?_⟩, fun w' n' l' P' h' => ?_⟩
  · rcases inK x hx with rfl | hx | ⟨p, hp, rfl | rfl⟩
    · exact ⟨h3.symm, h1.bg.not_mu h2.row⟩
    · obtain ⟨cs, e, hc, _⟩ := ha1 x hx
      rw [e] at hc
      exact ⟨two_types hc h1.row (by decide), h1.bg.not_mu hc⟩
    · exact ⟨two_types (h2.maps p hp).1 h1.row (by decide), h1.bg.not_mu (h2.maps p hp).1⟩
    · exact ⟨two_types (h2.maps p hp).2.1 h1.row (by decide), h1.bg.not_mu (h2.maps p hp).2.1⟩
  · rcases inK x hx with rfl | hx | ⟨p, hp, rfl | rfl⟩
    · exact h1.bg.not_gw h2.row (by decide) k hk
    · obtain ⟨cs, e, hc, _⟩ := ha1 x hx
      rw [e] at hc
      exact h1.bg.not_gw hc (by decide) k hk
    · exact h1.bg.not_gw (h2.maps p hp).1 (by decide) k hk
    · exact h2.sep p hp k hk
  · rcases inK x hx with rfl | hx | ⟨q, hq, rfl | rfl⟩
    · exact two_types h2.row (h1.maps p hp).2.1 (by decide)
    · obtain ⟨cs, e, hc, _⟩ := ha1 x hx
      rw [e] at hc
      exact two_types hc (h1.maps p hp).2.1 (by decide)
    · exact two_types (h2.maps q hq).1 (h1.maps p hp).2.1 (by decide)
    · exact (h4 p hp q hq).symm
  · obtain ⟨ds, hd⟩ := h1.rowne e
    rcases inK x hx with rfl | hx | ⟨q, hq, rfl | rfl⟩
    · exact two_types h2.row hd (by decide) rfl
    · obtain ⟨cs, _, _, e3⟩ := ha1 x hx
      exact h5 x.1 e e3
    · exact two_types (h2.maps q hq).1 hd (by decide) rfl
    · exact two_types (h2.maps q hq).2.1 hd (by decide) rfl
  · obtain ⟨gm', gw', mu', A1', cap1', g⟩ := h'
    refine ⟨gm', gw', mu', A1', cap1', A2, cap2, g.sub (fun x hx => absurd hx List.not_mem_nil), ⟨g.bg, g.kept _ kRow, ownsRow_keep h2.own fun g2 hg2 => ?_, fun p hp => ⟨g.kept _ (kgm p hp), g.kept _ (kgw p hp), (h2.maps p hp).2.2⟩, h2.gws, h2.rise, h2.cnew, h2.pnew, fun p hp k hk => g.kgw _ (kgw p hp) k hk, fun x hx => absurd hx List.not_mem_nil, fun x hx => absurd hx List.not_mem_nil, fun x hx => absurd hx List.not_mem_nil, fun x hx => absurd hx List.not_mem_nil, fun x hx => absurd hx List.not_mem_nil⟩, (g.knc _ kRow).1.symm, fun p hp q hq e => g.kpg _ (kgw q hq) p hp e.symm, fun g2 e1 e2 => ?_⟩
    · obtain ⟨cs, hc, hm⟩ := ha2 g2 hg2
      exact (g.kept _ (kA _ hm)).trans hc.symm
    · obtain ⟨cs, hc, hm⟩ := ha2 g2 e2
      exact g.kA _ (kA _ hm) e1
theorem SG2.below (h : SG2 W w c1 c2 b s1 M1 s2 M2 top n l P1 P2) (hb : Below w.heap.size w w') : SG2 W w' c1 c2 b s1 M1 s2 M2 top n l P1 P2 := by
  obtain ⟨gm, gw, mu, A1, cap1, A2, cap2, h1, h2, h3, h4, h5⟩ := h
  exact ⟨gm, gw, mu, A1, cap1, A2, cap2, h1.below hb, h2.below hb, h3, h4, h5⟩
theorem SG2.way (h : SG2 W w c1 c2 b s1 M1 s2 M2 top n l P1 P2) : Below W.heap.size W w := by
  obtain ⟨gm, gw, mu, A1, cap1, A2, cap2, h1, _⟩ := h
  exact h1.bg.way
/-- a second cache is made -/
theorem SG2.made (h : SG W [] w c1 b s1 M1 top n l P1) (h1 : 16 ≤ s2) (h2 : s2 ≤ 512) (h3 : (s2 : Int).tmod 16 = 0) (M : Nat) (S : Int) (hS : S = (s2 : Int)) :
    Calls Tryz.prog 43 #[.pointer (some ⟨b, 0, none⟩), .int .i64 S] w fun e w' => ∃ c, e = .returned (.pointer (some ⟨c, 0, none⟩)) ∧ SG2 W w' c1 c b s1 M1 s2 M top n l P1 [] := by
  subst hS
  refine (snew_yes b s2 (by omega) (by omega) h3 w).mono ?_
  rintro e w' ⟨rfl, rfl⟩
  obtain ⟨gm, gw, mu, A, cap, h⟩ := h
  have hlt := h.clt
  exact ⟨_, rfl, gm, gw, mu, A, cap, none, 0, h.alloc _, ⟨(h.bg.below ((Below.refl _ w).alloc (Nat.le_refl _) _)).rebase, heap_alloc_new w _, World.ownsRow_nil _ _ _ _, fun p hp => absurd hp List.not_mem_nil, List.Pairwise.nil, List.Pairwise.nil, h.bg.way.size, fun p hp => absurd hp List.not_mem_nil, fun p hp => absurd hp List.not_mem_nil, fun p hp => absurd hp List.not_mem_nil, fun p hp => absurd hp List.not_mem_nil, fun p hp => absurd hp List.not_mem_nil, fun p hp => absurd hp List.not_mem_nil, fun p hp => absurd hp List.not_mem_nil⟩, by omega, fun p _ q hq => absurd hq List.not_mem_nil, fun g _ e => by cases e⟩
/-- the laws' invariant of two caches -/
structure Two (top M1 M2 : Nat) (l : List Tl) (P1 P2 : List Pg) : Prop where
  one : Lay top M1 l P1
  two : Lay top M2 l P2
  apart : ∀ p ∈ P1, ∀ q ∈ P2, p.q ≠ q.q
theorem Two.swap {l : List Tl} (h : Two top M1 M2 l P1 P2) : Two top M2 M1 l P2 P1 := ⟨h.two, h.one, fun p hp q hq e => h.apart q hq p hp e.symm⟩
theorem Two.take {l l' : List Tl} {P' : List Pg} {size : Nat} {at_ er : Int} (h : Two top M1 M2 l P1 P2) (ht : TakeS top M1 size l P1 at_ er l' P') (hwf : ∀ p ∈ P1, WF M1 p.ws) (hM : 0 < M1) : Two top M1 M2 l' P' P2 :=
  ⟨ht.lay h.one hwf hM, ⟨fun q hq => ht.blocks _ (h.two.mem q hq), h.two.some⟩, fun p hp q hq e => by
    rcases ht.pages p hp with ⟨y, hy, e2, _⟩ | hf
    · exact h.apart y hy q hq (by rw [e2, e])
    · exact hf 0 (by rw [e]; exact h.two.mem q hq)⟩
theorem Two.give {l l' : List Tl} {P' : List Pg} (h : Two top M1 M2 l P1 P2) (hl : Lay top M1 l' P')
    (hc : (l' = l ∧ P'.map Pg.q = P1.map Pg.q) ∨ ∃ Pa p Pb, P1 = Pa ++ p :: Pb ∧ P' = Pa ++ Pb ∧ ∃ a d, l = a ++ (0, false) :: d ∧ p.q = span a ∧ l' = melt top a.reverse 0 d) : Two top M1 M2 l' P' P2 := by
  rcases hc with ⟨rfl, e⟩ | ⟨Pa, p, Pb, rfl, rfl, a, d, rfl, hp, rfl⟩
  · refine ⟨hl, h.two, fun x hx q hq e2 => ?_⟩
    have : x.q ∈ P1.map Pg.q := by rw [← e]; exact List.mem_map_of_mem hx
    obtain ⟨y, hy, e3⟩ := List.mem_map.1 this
    exact h.apart y hy q hq (by rw [e3, e2])
  · refine ⟨hl, ⟨fun q hq => ?_, h.two.some⟩, fun x hx q hq => h.apart x (by rcases List.mem_append.1 hx with hx | hx <;> simp [hx]) q hq⟩
    have hm := h.two.mem q hq
    have hne := h.apart p (by simp) q hq
    rw [melt_used, List.reverse_reverse, span_rev]
    rw [blks_same] at hm
    rcases List.mem_append.1 hm with hm | hm
    · exact List.mem_append_left _ hm
    · rcases List.mem_cons.1 hm with hm | hm
      · injection hm with hm
        omega
      · exact List.mem_append_right _ hm
end Go.Proofs.YtflkoabgkgegjaaGreatDoor
