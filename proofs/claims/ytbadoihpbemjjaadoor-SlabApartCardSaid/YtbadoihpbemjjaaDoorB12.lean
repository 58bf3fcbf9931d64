/- Take, Give, Order, New with tiles. Condition: the allocator's state is held. -/
import Derived.Test.YtbadoihpbemjjaaDoorB11
import Derived.Test.YtbadoihpbemjjaaDoorP4
namespace Go.Proofs.YtbadoihpbemjjaaDoor
open Go.RowKit Go.Maps
variable {V W w : World} {S : List (Option Addr × List Value)} {b top : Nat} {gm gw : Nat → Nat} {mu n : Nat} {l : List Tl}

theorem FRel.place {F : Nat → Nat → Bool} (h2 : FRel F top l) (hg : Good top l) : ∀ x ∈ blks true 0 l, x.2 ≤ top ∧ ∃ i, x.1 = i * 2 ^ x.2 ∧ i < 2 ^ (top - x.2) ∧ F x.2 i = true := fun x hx => by
  obtain ⟨a, c, e, hp⟩ := blks_mem hx
  rw [e] at hg
  have hle := hg.le (x.2, true) (by simp)
  have hpl := (Mid.of_good hg).place
  rw [span_rev] at hpl
  simp only [Nat.zero_add] at hp
  refine ⟨hle, span a / 2 ^ x.2, by rw [hpl.1, hp], hpl.2, (h2 x.2 _ hle hpl.2).2 ?_⟩
  rw [hpl.1, ← hp]
  exact hx
theorem take_g (h : BG V W S w b top gm gw mu n l) (hT : TabZ W) (o : Int) (hn : n < 1000) :
    Calls Tryd.prog 23 #[.pointer (some ⟨b, 0, none⟩), .int .i64 o] w fun e w' => ∃ at_ er l', e = .returned (.tuple #[.int .i64 at_, .int .i64 er]) ∧ TakeR top l o at_ er l' ∧ BG V W S w' b top gm gw mu (n + 1) l' := by
  obtain ⟨F, U, h1, h2, h3⟩ := h.ex
  by_cases q : o < 0 ∨ (top : Int) < o
  · refine (take_arg h1 o q).mono ?_
    rintro e w' ⟨rfl, rfl⟩
    exact ⟨0, 1, l, rfl, .inl ⟨q, rfl, rfl, rfl⟩, h.mono (Nat.le_succ _)⟩
  · obtain ⟨p, rfl⟩ : ∃ p : Nat, o = (p : Int) := ⟨o.toNat, by omega⟩
    have hp : p ≤ top := by omega
    refine (take_b h1 hT p _ rfl hp hn).mono ?_
    rintro e w' ⟨r, hr, hm⟩
    cases r with
    | none =>
      obtain ⟨rfl, rfl⟩ := hm
      refine ⟨0, 4, l, rfl, .inr ⟨p, rfl, hp, .inl ⟨fun x hx => ?_, rfl, rfl, rfl⟩⟩, h.mono (Nat.le_succ _)⟩
      obtain ⟨p1, i, _, p3, p4⟩ := h2.place h.good x hx
      by_cases q2 : x.2 < p
      · exact q2
      · rw [hr x.2 i (by omega) p1 p3] at p4; cases p4
    | some y =>
      obtain ⟨k, i⟩ := y
      obtain ⟨rfl, hb⟩ := hm
      obtain ⟨r1, r2, r3, r4, r5, r6⟩ := hr
      have hmem := (h2 k i r2 r3).1 r4
      obtain ⟨a, c, rfl, hsp⟩ := blks_mem hmem
      simp only [Nat.zero_add] at hsp
      refine ⟨_, 0, takeT p k a c, rfl, .inr ⟨p, rfl, hp, .inr ⟨k, a, c, rfl, r1, fun x hx hqx => ?_, fun x hx hk => ?_, by rw [hsp], rfl, rfl⟩⟩, ⟨⟨_, _, hb, h2.take r1 r2 hsp, ?_⟩, take_good h.good r1⟩⟩
      · obtain ⟨p1, j, _, p3, p4⟩ := h2.place h.good x hx
        by_cases q2 : x.2 < k
        · rw [r6 x.2 j hqx q2 p3] at p4; cases p4
        · omega
      · obtain ⟨p1, j, p2, p3, p4⟩ := h2.place h.good x hx
        rw [hk] at p2 p4
        by_cases q2 : j < i
        · rw [r5 j q2] at p4; cases p4
        · rw [p2, ← hsp]
          exact Nat.mul_le_mul_right _ (by omega)
      · have := h3.take r1
        rw [hsp, show ((1024 * span a : Nat) : Int) = 1024 * ((span a : Nat) : Int) by omega]
        exact this
theorem give_g (h : BG V W S w b top gm gw mu n l) (x : Int) (hx : (Lit.int .i64 x).wf = true) :
    Calls Tryd.prog 41 #[.pointer (some ⟨b, 0, none⟩), .int .i64 x] w fun e w' => ∃ er l', e = .returned (.int .i64 er) ∧ GiveR top l x er l' ∧ BG V W S w' b top gm gw mu n l' := by
  obtain ⟨F, U, h1, h2, h3⟩ := h.ex
  cases hu : U x with
  | none =>
    refine (give_none h1 x hx hu).mono ?_
    rintro e w' ⟨rfl, rfl⟩
    refine ⟨6, l, rfl, .inl ⟨fun p k hp hm => ?_, rfl, rfl⟩, h⟩
    rw [(h3 x k).2 ⟨p, hp, hm⟩] at hu
    cases hu
  | some k =>
    obtain ⟨p, hp, hm⟩ := (h3 x k).1 hu
    obtain ⟨a, c, rfl, hsp⟩ := blks_mem hm
    simp only [Nat.zero_add] at hsp
    subst hsp
    refine (give_b h1 x k a c h.good h2 hu hp).mono ?_
    rintro e w' ⟨rfl, F', hb, hF'⟩
    exact ⟨0, _, rfl, .inr ⟨k, a, c, rfl, hp, rfl, rfl⟩, ⟨⟨F', _, hb, hF', h3.give hp _⟩, melt_good rfl (Mid.of_good h.good)⟩⟩
theorem order_g (h : BG V W S w b top gm gw mu n l) (x : Int) (hx : (Lit.int .i64 x).wf = true) :
    Calls Tryd.prog 29 #[.pointer (some ⟨b, 0, none⟩), .int .i64 x] w fun e w' => ∃ r : Int, e = .returned (.int .i64 r) ∧ ((∃ p k : Nat, x = 1024 * (p : Int) ∧ (p, k) ∈ blks false 0 l ∧ r = (k : Int)) ∨ (∀ p k : Nat, x = 1024 * (p : Int) → (p, k) ∉ blks false 0 l) ∧ r = -1) ∧ w' = w := by
  obtain ⟨F, U, h1, h2, h3⟩ := h.ex
  refine (order_b h1 x hx).mono ?_
  rintro e w' ⟨rfl, rfl⟩
  refine ⟨_, rfl, ?_, rfl⟩
  cases hu : U x with
  | none =>
    right
    refine ⟨fun p k hp hm => ?_, rfl⟩
    rw [(h3 x k).2 ⟨p, hp, hm⟩] at hu
    cases hu
  | some k =>
    obtain ⟨p, hp, hm⟩ := (h3 x k).1 hu
    exact .inl ⟨p, k, hp, hm, rfl⟩
theorem take_l (h : BG V W S w b top gm gw mu n l) (hT : TabZ W) (hn : n < 1000) (o at_ er : Int) (l' : List Tl) (hc : takeC top l o = (at_, er, l')) :
    Calls Tryd.prog 23 #[.pointer (some ⟨b, 0, none⟩), .int .i64 o] w fun e w' => e = .returned (.tuple #[.int .i64 at_, .int .i64 er]) ∧ BG V W S w' b top gm gw mu (n + 1) l' :=
  (take_g h hT o hn).mono fun e w' ⟨a1, e1, l1, he, hr, hb⟩ => by
    have := hr.eq
    rw [hc] at this
    injection this with h1 h2
    injection h2 with h2 h3
    subst h1 h2 h3
    exact ⟨he, hb⟩
theorem give_l (h : BG V W S w b top gm gw mu n l) (x : Int) (hx : (Lit.int .i64 x).wf = true) (er : Int) (l' : List Tl) (hc : giveC top l x = (er, l')) :
    Calls Tryd.prog 41 #[.pointer (some ⟨b, 0, none⟩), .int .i64 x] w fun e w' => e = .returned (.int .i64 er) ∧ BG V W S w' b top gm gw mu n l' :=
  (give_g h x hx).mono fun e w' ⟨e1, l1, he, hr, hb⟩ => by
    have := hr.eq
    rw [hc] at this
    injection this with h1 h2
    subst h1 h2
    exact ⟨he, hb⟩
theorem order_l (h : BG V W S w b top gm gw mu n l) (x : Int) (hx : (Lit.int .i64 x).wf = true) (r : Int) (hr : orderC l x = r) :
    Calls Tryd.prog 29 #[.pointer (some ⟨b, 0, none⟩), .int .i64 x] w fun e w' => e = .returned (.int .i64 r) ∧ w' = w :=
  (order_g h x hx).mono fun e w' ⟨r1, he, h1, hw⟩ => ⟨by rw [he, ← orderC_eq h1, hr], hw⟩
theorem new_g (N top : Nat) (NN : Int) (hNN : NN = (N : Int)) (hN : N = 1024 * 2 ^ top) (h6 : 6 ≤ top) (ht : top ≤ 20) (w : World) (hT : TabZ w) : Calls Tryd.prog 8 #[.int .i64 NN] w fun e w' => ∃ b gm gw mu, e = .returned (.pointer (some ⟨b, 0, none⟩)) ∧ BG w w [] w' b top gm gw mu 0 [(top, true)] :=
  (new_b N top NN hNN hN h6 ht w hT).mono fun e w' ⟨b, gm, gw, mu, he, hb⟩ => ⟨b, gm, gw, mu, he, ⟨⟨_, _, hb, fun j x hj hx => by
    unfold setF
    by_cases q : j = top ∧ x = 0
    · rw [if_pos q, q.1, q.2]
      simp [blks]
    · rw [if_neg q]
      simp only [blks, if_true, List.mem_singleton, Prod.mk.injEq, Bool.false_eq_true, false_iff]
      rintro ⟨h1, h2⟩
      refine q ⟨h2, ?_⟩
      have := two_pos j
      rcases Nat.mul_eq_zero.1 h1 with h3 | h3
      · exact h3
      · omega, fun x k => ⟨fun h => (by cases h), fun ⟨p, _, h⟩ => (by simp [blks] at h)⟩⟩, good_start top⟩⟩
end Go.Proofs.YtbadoihpbemjjaaDoor
