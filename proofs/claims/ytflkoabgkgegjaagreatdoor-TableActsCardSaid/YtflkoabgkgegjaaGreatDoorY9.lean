/- The contract of Left; the allocator with its tiles. Condition: the allocator's state is held. And what follows from it. -/
import Derived.Test.YtflkoabgkgegjaaGreatDoorY7
import Derived.Test.YtflkoabgkgegjaaGreatDoorY8
import Derived.Test.YtflkoabgkgegjaaGreatDoorY5
/- The contract of Left; the allocator with its tiles. Condition: the allocator's state is held. -/
namespace Go.Proofs.YtflkoabgkgegjaaGreatDoor
open Go.RowKit Go.Maps
variable {V W w : World} {S : List (Option Addr × List Value)} {b top : Nat} {gm gw : Nat → Nat} {mu n : Nat} {F : Nat → Nat → Bool} {U : Int → Option Nat}

theorem SlR.blk' {w : World} {A : Option Addr} {L : List (Nat × Nat)} (h : SlR w A (bCells L)) {k : Nat} (hk : k < L.length) : ∃ b off, A = some ⟨b, off, none⟩ ∧ b < w.heap.size ∧ w.cell? ⟨b, off + k * 2, none⟩ = some (.int .i64 ((1024 * L[k].1 : Nat) : Int)) ∧ w.cell? ⟨b, off + k * 2 + 1, none⟩ = some (.int .i64 (L[k].2 : Int)) := by
  obtain ⟨b, off, h1, h2, h3, h4⟩ := h.blk hk
  exact ⟨b, off, h1, h2, h3, by rw [Nat.add_assoc]; exact h4⟩
/-- the bytes of some blocks -/
def leftB (L : List (Nat × Nat)) : Nat := (L.map fun x => 1024 * 2 ^ x.2).sum
theorem leftB_take (L : List (Nat × Nat)) (k : Nat) (hk : k < L.length) : leftB (L.take (k + 1)) = leftB (L.take k) + 1024 * 2 ^ L[k].2 := by
  have e : L.take (k + 1) = L.take k ++ [L[k]] := by rw [List.take_add_one, List.getElem?_eq_getElem hk]; rfl
  unfold leftB
  rw [e]
  simp only [List.map_append, List.sum_append, List.map_cons, List.map_nil, List.sum_cons, List.sum_nil, Nat.add_zero]
theorem leftB_le : ∀ (L : List (Nat × Nat)) (k : Nat), leftB (L.take k) ≤ leftB L
  | [], k => by simp [leftB]
  | x :: L, 0 => by simp [leftB]
  | x :: L, k + 1 => by
    have := leftB_le L k
    simp only [leftB, List.take_succ_cons, List.map_cons, List.sum_cons] at this ⊢
    omega
theorem leftB_span (f : Bool) : ∀ (p : Nat) (l : List Tl), leftB (blks f p l) ≤ 1024 * span l
  | _, [] => by simp [blks, leftB]
  | p, t :: l => by
    have := leftB_span f (p + 2 ^ t.1) l
    simp only [blks, span]
    split
    · simp only [leftB, List.map_cons, List.sum_cons] at this ⊢
      omega
    · have := two_pos t.1
      omega
theorem blks_length (f : Bool) : ∀ (p : Nat) (l : List Tl), (blks f p l).length ≤ span l
  | _, [] => by simp [blks, span]
  | p, t :: l => by
    have := blks_length f (p + 2 ^ t.1) l
    have := two_pos t.1
    simp only [blks, span]
    split
    · simp only [List.length_cons]; omega
    · omega
/-- an allocator with its tiles -/
structure BG (V W : World) (S : List (Option Addr × List Value)) (w : World) (b top : Nat) (gm gw : Nat → Nat) (mu n : Nat) (l : List Tl) : Prop where
  ex : ∃ F U, BSt V W S w b top gm gw mu n F U ∧ FRel F top l ∧ URel U l
  good : Good top l
variable {l : List Tl}
theorem BG.below {w' : World} (h : BG V W S w b top gm gw mu n l) (hb : Below w.heap.size w w') : BG V W S w' b top gm gw mu n l := by
  obtain ⟨F, U, h1, h2⟩ := h.ex
  exact ⟨⟨F, U, h1.below hb, h2⟩, h.good⟩
theorem BG.way (h : BG V W S w b top gm gw mu n l) : Below W.heap.size W w := by
  obtain ⟨F, U, h1, h2⟩ := h.ex
  exact h1.way
theorem BG.tle (h : BG V W S w b top gm gw mu n l) : top ≤ 20 := by
  obtain ⟨F, U, h1, h2⟩ := h.ex
  exact h1.tle
theorem BG.hold {s : Option Addr × List Value} (h : BG V W S w b top gm gw mu n l) (hs : HeldS w s) : BG V W (s :: S) w b top gm gw mu n l := by
  obtain ⟨F, U, h1, h2⟩ := h.ex
  exact ⟨⟨F, U, h1.hold hs, h2⟩, h.good⟩
theorem BG.sub {S' : List (Option Addr × List Value)} (h : BG V W S w b top gm gw mu n l) (hs : ∀ s ∈ S', s ∈ S) : BG V W S' w b top gm gw mu n l := by
  obtain ⟨F, U, h1, h2⟩ := h.ex
  exact ⟨⟨F, U, h1.sub hs, h2⟩, h.good⟩
theorem BG.held {s : Option Addr × List Value} (h : BG V W S w b top gm gw mu n l) (hs : s ∈ S) : HeldS w s := by
  obtain ⟨F, U, h1, h2⟩ := h.ex
  exact h1.held s hs
theorem BG.mono {n' : Nat} (h : BG V W S w b top gm gw mu n l) (hn : n ≤ n') : BG V W S w b top gm gw mu n' l := by
  obtain ⟨F, U, h1, h2⟩ := h.ex
  refine ⟨⟨F, U, ⟨h1.way, h1.stay, h1.tle, h1.row, h1.maps, h1.wnew, h1.inj, ?_, h1.unew, h1.held⟩, h2⟩, h.good⟩
  obtain ⟨D, hd, hr⟩ := h1.used
  exact ⟨D, hd.mono hn, hr⟩
end Go.Proofs.YtflkoabgkgegjaaGreatDoor
/- Taking, giving back and asking are functions of the tiles. No condition. -/
namespace Go.Proofs.YtflkoabgkgegjaaGreatDoor

/-- what Take answers, and the tiles behind it -/
def TakeR (top : Nat) (l : List Tl) (o at_ er : Int) (l' : List Tl) : Prop :=
  ((o < 0 ∨ (top : Int) < o) ∧ at_ = 0 ∧ er = 1 ∧ l' = l) ∨
  ∃ q : Nat, o = (q : Int) ∧ q ≤ top ∧ (((∀ x ∈ blks true 0 l, x.2 < q) ∧ at_ = 0 ∧ er = 4 ∧ l' = l) ∨
    ∃ k a c, l = a ++ (k, true) :: c ∧ q ≤ k ∧ (∀ x ∈ blks true 0 l, q ≤ x.2 → k ≤ x.2) ∧ (∀ x ∈ blks true 0 l, x.2 = k → span a ≤ x.1) ∧ at_ = ((1024 * span a : Nat) : Int) ∧ er = 0 ∧ l' = takeT q k a c)
/-- what Give answers, and the tiles behind it -/
def GiveR (top : Nat) (l : List Tl) (x er : Int) (l' : List Tl) : Prop :=
  ((∀ p k : Nat, x = 1024 * (p : Int) → (p, k) ∉ blks false 0 l) ∧ er = 6 ∧ l' = l) ∨
  ∃ k a c, l = a ++ (k, false) :: c ∧ x = 1024 * ((span a : Nat) : Int) ∧ er = 0 ∧ l' = melt (top - k) a.reverse k c
/-- the tiles ahead of the first free one of an order, and those behind it -/
def splitC (k : Nat) : List Tl → List Tl × List Tl
  | [] => ([], [])
  | t :: l => if t = (k, true) then ([], l) else (t :: (splitC k l).1, (splitC k l).2)
theorem splitC_spec {k : Nat} : ∀ {l : List Tl}, (k, true) ∈ l → l = (splitC k l).1 ++ (k, true) :: (splitC k l).2 ∧ (k, true) ∉ (splitC k l).1
  | [], h => absurd h List.not_mem_nil
  | t :: l, h => by
    by_cases e : t = (k, true)
    · subst e
      simp [splitC]
    · have hm : (k, true) ∈ l := by
        rcases List.mem_cons.1 h with q | q
        · exact absurd q.symm e
        · exact q
      obtain ⟨h1, h2⟩ := splitC_spec hm
      simp only [splitC, if_neg e]
      refine ⟨by rw [List.cons_append, ← h1], fun hc => ?_⟩
      rcases List.mem_cons.1 hc with q | q
      · exact e q.symm
      · exact h2 q
def takeC (top : Nat) (l : List Tl) (o : Int) : Int × Int × List Tl :=
  if o < 0 ∨ (top : Int) < o then (0, 1, l) else
  match best o.toNat l with
  | none => (0, 4, l)
  | some k => (((1024 * span (splitC k l).1 : Nat) : Int), 0, takeT o.toNat k (splitC k l).1 (splitC k l).2)
theorem free_mem {l : List Tl} {k : Nat} (h : (k, true) ∈ l) : ∃ p, (p, k) ∈ blks true 0 l := by
  obtain ⟨a, c, rfl⟩ := List.append_of_mem h
  exact ⟨_, blks_at true 0 a c k⟩
theorem TakeR.eq {top : Nat} {l l' : List Tl} {o at_ er : Int} (h : TakeR top l o at_ er l') : takeC top l o = (at_, er, l') := by
  unfold takeC
  rcases h with ⟨h, rfl, rfl, rfl⟩ | ⟨q, rfl, hq, ⟨h, rfl, rfl, rfl⟩ | ⟨k, a, c, rfl, h1, h2, h3, rfl, rfl, rfl⟩⟩
  · rw [if_pos h]
  · rw [if_neg (by omega)]
    cases hb : best (q : Int).toNat l' with
    | none => rfl
    | some k =>
      obtain ⟨b1, b2, _⟩ := best_some hb
      obtain ⟨p, hp⟩ := free_mem b2
      have := h _ hp
      simp only [Int.toNat_natCast] at b1
      simp only at this
      omega
  · rw [if_neg (by omega)]
    rw [Int.toNat_natCast]
    cases hb : best q (a ++ (k, true) :: c) with
    | none =>
      have := best_none hb (k, true) (by simp) rfl
      simp only at this
      omega
    | some k' =>
      obtain ⟨b1, b2, b3⟩ := best_some hb
      have e : k' = k := by
        have := b3 (k, true) (by simp) rfl h1
        obtain ⟨p, hp⟩ := free_mem b2
        have := h2 _ hp b1
        simp only at *
        omega
      subst e
      obtain ⟨s1, s2⟩ := splitC_spec (k := k') (l := a ++ (k', true) :: c) (by simp)
      show (((1024 * span (splitC k' (a ++ (k', true) :: c)).1 : Nat) : Int), (0 : Int), takeT q k' (splitC k' (a ++ (k', true) :: c)).1 (splitC k' (a ++ (k', true) :: c)).2) = _
      generalize splitC k' (a ++ (k', true) :: c) = s at s1 s2 ⊢
      obtain ⟨a', c'⟩ := s
      simp only at s1 s2 ⊢
      have m1 : (span a', k') ∈ blks true 0 (a ++ (k', true) :: c) := by
        rw [s1]
        have := blks_at true 0 a' c' k'
        rwa [Nat.zero_add] at this
      have le1 := h3 _ m1 rfl
      simp only at le1
      have e2 : span a = span a' := by
        by_cases q2 : span a = span a'
        · exact q2
        · exfalso
          have m2 : (span a, k') ∈ blks true 0 (a' ++ (k', true) :: c') := by
            rw [← s1]
            have := blks_at true 0 a c k'
            rwa [Nat.zero_add] at this
          rw [blks_same] at m2
          rcases List.mem_append.1 m2 with m2 | m2
          · obtain ⟨x, y, e3, _⟩ := blks_mem m2
            apply s2
            rw [e3]
            simp
          · rcases List.mem_cons.1 m2 with m2 | m2
            · injection m2 with m2 _
              exact q2 m2
            · have := (blks_lt m2).1
              simp only at this
              have := two_pos k'
              omega
      obtain ⟨e3, _, e4⟩ := tile_one s1 e2
      rw [← e3, ← e4]
/-- the used tile at an address -/
def findC : Nat → List Tl → Nat → Option (List Tl × Nat × List Tl)
  | _, [], _ => none
  | p, t :: l, y => if p = y then (if t.2 = false then some ([], t.1, l) else none) else (findC (p + 2 ^ t.1) l y).map fun r => (t :: r.1, r.2)
theorem findC_some : ∀ {p : Nat} {l a c : List Tl} {k y : Nat}, findC p l y = some (a, k, c) → l = a ++ (k, false) :: c ∧ y = p + span a
  | p, [], _, _, _, _, h => by cases h
  | p, t :: l, a, c, k, y, h => by
    unfold findC at h
    split at h
    · split at h
      · rename_i e1 e2
        simp only [Option.some.injEq, Prod.mk.injEq] at h
        obtain ⟨rfl, rfl, rfl⟩ := h
        exact ⟨by rw [← e2]; rfl, by simp [span, e1]⟩
      · cases h
    · rw [Option.map_eq_some_iff] at h
      obtain ⟨⟨a', k', c'⟩, h1, h2⟩ := h
      simp only [Prod.mk.injEq] at h2
      obtain ⟨rfl, rfl, rfl⟩ := h2
      obtain ⟨h3, h4⟩ := findC_some h1
      exact ⟨by rw [h3]; rfl, by rw [h4]; simp only [span]; omega⟩
theorem findC_at : ∀ (p : Nat) (a c : List Tl) (k : Nat), findC p (a ++ (k, false) :: c) (p + span a) = some (a, k, c)
  | p, [], c, k => by simp [findC, span]
  | p, t :: a, c, k => by
    have := two_pos t.1
    simp only [List.cons_append, findC, span]
    rw [if_neg (by omega), show p + (2 ^ t.1 + span a) = p + 2 ^ t.1 + span a by omega, findC_at (p + 2 ^ t.1) a c k]
    rfl
def giveC (top : Nat) (l : List Tl) (x : Int) : Int × List Tl :=
  if 0 ≤ x ∧ x % 1024 = 0 then
    match findC 0 l (x / 1024).toNat with
    | none => (6, l)
    | some (a, k, c) => (0, melt (top - k) a.reverse k c)
  else (6, l)
theorem GiveR.eq {top : Nat} {l l' : List Tl} {x er : Int} (h : GiveR top l x er l') : giveC top l x = (er, l') := by
  unfold giveC
  rcases h with ⟨h, rfl, rfl⟩ | ⟨k, a, c, rfl, rfl, rfl, rfl⟩
  · split
    · rename_i hx
      cases hf : findC 0 l' (x / 1024).toNat with
      | none => rfl
      | some r =>
        obtain ⟨a, k, c⟩ := r
        obtain ⟨h1, h2⟩ := findC_some hf
        exfalso
        refine h (x / 1024).toNat k (by omega) ?_
        rw [h2, h1]
        exact blks_at false 0 a c k
    · rfl
  · rw [if_pos (by omega)]
    have e : (1024 * ((span a : Nat) : Int) / 1024).toNat = 0 + span a := by omega
    rw [e, findC_at]
def orderC (l : List Tl) (x : Int) : Int :=
  if 0 ≤ x ∧ x % 1024 = 0 then
    match findC 0 l (x / 1024).toNat with
    | none => -1
    | some (_, k, _) => (k : Int)
  else -1
theorem orderC_eq {l : List Tl} {x r : Int} (h : (∃ p k : Nat, x = 1024 * (p : Int) ∧ (p, k) ∈ blks false 0 l ∧ r = (k : Int)) ∨ (∀ p k : Nat, x = 1024 * (p : Int) → (p, k) ∉ blks false 0 l) ∧ r = -1) : orderC l x = r := by
  unfold orderC
  rcases h with ⟨p, k, rfl, hm, rfl⟩ | ⟨h, rfl⟩
  · rw [if_pos (by omega)]
    obtain ⟨a, c, rfl, hp⟩ := blks_mem hm
    simp only at hp
    have e : (1024 * (p : Int) / 1024).toNat = 0 + span a := by omega
    rw [e, findC_at]
  · split
    · cases hf : findC 0 l (x / 1024).toNat with
      | none => rfl
      | some y =>
        obtain ⟨a, k, c⟩ := y
        obtain ⟨h1, h2⟩ := findC_some hf
        exfalso
        refine h (x / 1024).toNat k (by omega) ?_
        rw [h2, h1]
        exact blks_at false 0 a c k
    · rfl
end Go.Proofs.YtflkoabgkgegjaaGreatDoor
/- Take, Give, Order, New with tiles. Condition: the allocator's state is held. -/
namespace Go.Proofs.YtflkoabgkgegjaaGreatDoor
open Go.RowKit Go.Maps
variable {V W w : World} {S : List (Option Addr × List Value)} {b top : Nat} {gm gw : Nat → Nat} {mu n : Nat} {l : List Tl}

theorem FRel.place {F : Nat → Nat → Bool} (h2 : FRel F top l) (hg : Good top l) : ∀ x ∈ blks true 0 l, x.2 ≤ top ∧ ∃ i, x.1 = i * 2 ^ x.2 ∧ i < 2 ^ (top - x.2) ∧ F x.2 i = true := fun x hx => by
  obtain ⟨a, c, e, hp⟩ := blks_mem hx
  rw [e] at hg
  have hle := hg.le (x.2, true) (by simp)
  have hpl := (Mid.of_good hg).place
  rw [span_rev] at hpl
  simp only [Nat.zero_add] at hp
  refine ⟨hle, span a / 2 ^ x.2, by rw [hpl.1, hp], hpl.2, (h2 x.2 _ hle hpl.2).2 ?_⟩
  rw [hpl.1, ← hp]
  exact hx
theorem take_g (h : BG V W S w b top gm gw mu n l) (hT : TabZ W) (o : Int) (hn : n < 1000) :
    Calls Tryz.prog 71 #[.pointer (some ⟨b, 0, none⟩), .int .i64 o] w fun e w' => ∃ at_ er l', e = .returned (.tuple #[.int .i64 at_, .int .i64 er]) ∧ TakeR top l o at_ er l' ∧ BG V W S w' b top gm gw mu (n + 1) l' := by
  obtain ⟨F, U, h1, h2, h3⟩ := h.ex
  by_cases q : o < 0 ∨ (top : Int) < o
  · refine (take_arg h1 o q).mono ?_
    rintro e w' ⟨rfl, rfl⟩
    exact ⟨0, 1, l, rfl, .inl ⟨q, rfl, rfl, rfl⟩, h.mono (Nat.le_succ _)⟩
  · obtain ⟨p, rfl⟩ : ∃ p : Nat, o = (p : Int) := ⟨o.toNat, by omega⟩
    have hp : p ≤ top := by omega
    refine (take_b h1 hT p _ rfl hp hn).mono ?_
    rintro e w' ⟨r, hr, hm⟩
    cases r with
    | none =>
      obtain ⟨rfl, rfl⟩ := hm
      refine ⟨0, 4, l, rfl, .inr ⟨p, rfl, hp, .inl ⟨fun x hx => ?_, rfl, rfl, rfl⟩⟩, h.mono (Nat.le_succ _)⟩
      obtain ⟨p1, i, _, p3, p4⟩ := h2.place h.good x hx
      by_cases q2 : x.2 < p
      · exact q2
      · rw [hr x.2 i (by omega) p1 p3] at p4; cases p4
    | some y =>
      obtain ⟨k, i⟩ := y
      obtain ⟨rfl, hb⟩ := hm
      obtain ⟨r1, r2, r3, r4, r5, r6⟩ := hr
      have hmem := (h2 k i r2 r3).1 r4
      obtain ⟨a, c, rfl, hsp⟩ := blks_mem hmem
      simp only [Nat.zero_add] at hsp
      refine ⟨_, 0, takeT p k a c, rfl, .inr ⟨p, rfl, hp, .inr ⟨k, a, c, rfl, r1, fun x hx hqx => ?_, fun x hx hk => ?_, by rw [hsp], rfl, rfl⟩⟩, ⟨⟨_, _, hb, h2.take r1 r2 hsp, ?_⟩, take_good h.good r1⟩⟩
      · obtain ⟨p1, j, _, p3, p4⟩ := h2.place h.good x hx
        by_cases q2 : x.2 < k
        · rw [r6 x.2 j hqx q2 p3] at p4; cases p4
        · omega
      · obtain ⟨p1, j, p2, p3, p4⟩ := h2.place h.good x hx
        rw [hk] at p2 p4
        by_cases q2 : j < i
        · rw [r5 j q2] at p4; cases p4
        · rw [p2, ← hsp]
          exact Nat.mul_le_mul_right _ (by omega)
      · have := h3.take r1
        rw [hsp, show ((1024 * span a : Nat) : Int) = 1024 * ((span a : Nat) : Int) by omega]
        exact this
theorem give_g (h : BG V W S w b top gm gw mu n l) (x : Int) (hx : (Lit.int .i64 x).wf = true) :
    Calls Tryz.prog 85 #[.pointer (some ⟨b, 0, none⟩), .int .i64 x] w fun e w' => ∃ er l', e = .returned (.int .i64 er) ∧ GiveR top l x er l' ∧ BG V W S w' b top gm gw mu n l' := by
  obtain ⟨F, U, h1, h2, h3⟩ := h.ex
  cases hu : U x with
  | none =>
    refine (give_none h1 x hx hu).mono ?_
    rintro e w' ⟨rfl, rfl⟩
    refine ⟨6, l, rfl, .inl ⟨fun p k hp hm => ?_, rfl, rfl⟩, h⟩
    rw [(h3 x k).2 ⟨p, hp, hm⟩] at hu
    cases hu
  | some k =>
    obtain ⟨p, hp, hm⟩ := (h3 x k).1 hu
    obtain ⟨a, c, rfl, hsp⟩ := blks_mem hm
    simp only [Nat.zero_add] at hsp
    subst hsp
    refine (give_b h1 x k a c h.good h2 hu hp).mono ?_
    rintro e w' ⟨rfl, F', hb, hF'⟩
    exact ⟨0, _, rfl, .inr ⟨k, a, c, rfl, hp, rfl, rfl⟩, ⟨⟨F', _, hb, hF', h3.give hp _⟩, melt_good rfl (Mid.of_good h.good)⟩⟩
theorem take_l (h : BG V W S w b top gm gw mu n l) (hT : TabZ W) (hn : n < 1000) (o at_ er : Int) (l' : List Tl) (hc : takeC top l o = (at_, er, l')) :
    Calls Tryz.prog 71 #[.pointer (some ⟨b, 0, none⟩), .int .i64 o] w fun e w' => e = .returned (.tuple #[.int .i64 at_, .int .i64 er]) ∧ BG V W S w' b top gm gw mu (n + 1) l' :=
  (take_g h hT o hn).mono fun e w' ⟨a1, e1, l1, he, hr, hb⟩ => by
    have := hr.eq
    rw [hc] at this
    injection this with h1 h2
    injection h2 with h2 h3
    subst h1 h2 h3
    exact ⟨he, hb⟩
theorem give_l (h : BG V W S w b top gm gw mu n l) (x : Int) (hx : (Lit.int .i64 x).wf = true) (er : Int) (l' : List Tl) (hc : giveC top l x = (er, l')) :
    Calls Tryz.prog 85 #[.pointer (some ⟨b, 0, none⟩), .int .i64 x] w fun e w' => e = .returned (.int .i64 er) ∧ BG V W S w' b top gm gw mu n l' :=
  (give_g h x hx).mono fun e w' ⟨e1, l1, he, hr, hb⟩ => by
    have := hr.eq
    rw [hc] at this
    injection this with h1 h2
    subst h1 h2
    exact ⟨he, hb⟩
theorem new_g (N top : Nat) (NN : Int) (hNN : NN = (N : Int)) (hN : N = 1024 * 2 ^ top) (h6 : 6 ≤ top) (ht : top ≤ 20) (w : World) (hT : TabZ w) : Calls Tryz.prog 41 #[.int .i64 NN] w fun e w' => ∃ b gm gw mu, e = .returned (.pointer (some ⟨b, 0, none⟩)) ∧ BG w w [] w' b top gm gw mu 0 [(top, true)] :=
  (new_b N top NN hNN hN h6 ht w hT).mono fun e w' ⟨b, gm, gw, mu, he, hb⟩ => ⟨b, gm, gw, mu, he, ⟨⟨_, _, hb, fun j x hj hx => by
    unfold setF
    by_cases q : j = top ∧ x = 0
    · rw [if_pos q, q.1, q.2]
      simp [blks]
    · rw [if_neg q]
      simp only [blks, if_true, List.mem_singleton, Prod.mk.injEq, Bool.false_eq_true, false_iff]
      rintro ⟨h1, h2⟩
      refine q ⟨h2, ?_⟩
      have := two_pos j
      rcases Nat.mul_eq_zero.1 h1 with h3 | h3
      · exact h3
      · omega, fun x k => ⟨fun h => (by cases h), fun ⟨p, _, h⟩ => (by simp [blks] at h)⟩⟩, good_start top⟩⟩
end Go.Proofs.YtflkoabgkgegjaaGreatDoor
/- The slab's small functions: New, Size, Many, place; cmp.Compare. No condition. -/
namespace Go.Proofs.YtflkoabgkgegjaaGreatDoor
open Go.RowKit Go.Maps

theorem below_drewN {B : Nat} {a w : World} (h : Below B a w) (n : Nat) : Below B a (w.drewN n) := ⟨h.os, h.tape, h.output, h.size, h.block⟩
/-- a cache's row -/
def cRow (b : Nat) (size : Int) (A : Option Addr) (n cap : Nat) : Array Value := #[.pointer (some ⟨b, 0, none⟩), .int .i64 size, .slice A n cap]
set_option maxRecDepth 100000 in
theorem snew_yes (b : Nat) (size : Int) (h1 : 16 ≤ size) (h2 : size ≤ 512) (h3 : size.tmod 16 = 0) (w : World) : Calls Tryz.prog 43 #[.pointer (some ⟨b, 0, none⟩), .int .i64 size] w fun e w' => e = .returned (.pointer (some ⟨w.heap.size, 0, none⟩)) ∧ w' = w.alloc (.cells (cRow b size none 0 0) 133) := by
  have t1 : decide (size < 16) = false := decide_eq_false (by omega)
  have t2 : decide (512 < size) = false := decide_eq_false (by omega)
  have t3 : (size.tmod 16 != 0) = false := by simp [h3]
  clear h1 h2 h3
  go_enter Tryz.func43, Tryz.ntmps43
  go_wp2
  go_ret
  exact ⟨rfl, rfl⟩
set_option maxRecDepth 100000 in
theorem snew_nil (size : Int) (w : World) : Calls Tryz.prog 43 #[.pointer none, .int .i64 size] w fun e w' => e = .returned (.pointer none) ∧ w' = w := by
  go_enter Tryz.func43, Tryz.ntmps43
  go_wp2
  go_ret
  exact ⟨rfl, rfl⟩
set_option maxRecDepth 100000 in
theorem snew_no (b : Nat) (size : Int) (h : size < 16 ∨ 512 < size ∨ size.tmod 16 ≠ 0) (hw : (Lit.int .i64 size).wf = true) (w : World) : Calls Tryz.prog 43 #[.pointer (some ⟨b, 0, none⟩), .int .i64 size] w fun e w' => e = .returned (.pointer none) ∧ w' = w := by
  by_cases q1 : size < 16
  · have t1 : decide (size < 16) = true := decide_eq_true q1
    clear h
    go_enter Tryz.func43, Tryz.ntmps43
    go_wp2
    go_ret
    exact ⟨rfl, rfl⟩
  have t1 : decide (size < 16) = false := decide_eq_false q1
  by_cases q2 : 512 < size
  · have t2 : decide (512 < size) = true := decide_eq_true q2
    clear h q1
    go_enter Tryz.func43, Tryz.ntmps43
    go_wp2
    go_ret
    exact ⟨rfl, rfl⟩
  have t2 : decide (512 < size) = false := decide_eq_false q2
  have t3 : (size.tmod 16 != 0) = true := by
    simp only [bne_iff_ne, ne_eq]
    rcases h with h | h | h
    · omega
    · omega
    · exact h
  clear h q1 q2
  go_enter Tryz.func43, Tryz.ntmps43
  go_wp2
  go_ret
  exact ⟨rfl, rfl⟩
set_option maxRecDepth 100000 in
theorem smany_any (c : Nat) (size M : Nat) (w : World) (hs : 16 ≤ size) (hM : M = 960 / size) (h : w.cell? ⟨c, 1, none⟩ = some (.int .i64 (size : Int))) : Calls Tryz.prog 72 #[.pointer (some ⟨c, 0, none⟩)] w fun e w' => e = .returned (.int .i64 (M : Int)) ∧ w' = w := by
  obtain ⟨s, hs2⟩ : ∃ s : Int, (size : Int) = s := ⟨_, rfl⟩
  obtain ⟨m, hm⟩ : ∃ m : Int, (M : Int) = m := ⟨_, rfl⟩
  have t1 : wrap64 (Int.tdiv 960 s) = m := by
    have e : Int.tdiv 960 s = ((960 / size : Nat) : Int) := by
      rw [← hs2, Int.tdiv_eq_ediv_of_nonneg (by omega)]
      rfl
    have := Nat.div_le_self 960 size
    rw [e, ← hm, hM, wrap64]; omega
  have t2 : ¬ (s = 0) := by omega
  rw [hs2] at h
  rw [hm]
  clear hs2 hm hM hs
  go_enter Tryz.func72, Tryz.ntmps72
  go_wp2
  rw [t1]
  go_ret
  exact ⟨rfl, rfl⟩
set_option maxRecDepth 100000 in
theorem smany_nil (w : World) : Calls Tryz.prog 72 #[.pointer none] w fun e w' => e = .returned (.int .i64 0) ∧ w' = w := by
  go_enter Tryz.func72, Tryz.ntmps72
  go_wp2
  go_ret
  exact ⟨rfl, rfl⟩
set_option maxRecDepth 100000 in
theorem place_any (c : Nat) (size x i : Nat) (p0 : Value) (hp0 : p0.oneCell' = true) (w : World) (hs : size ≤ 512) (hi : i ≤ 1000000) (hx : x ≤ 1099511627776) (I R : Int) (hI : I = (i : Int)) (X : Int) (hX : X = (x : Int)) (hR : R = ((x + 64 + i * size : Nat) : Int)) (h : w.cell? ⟨c, 1, none⟩ = some (.int .i64 (size : Int))) (hc : c < w.heap.size) :
    Calls Tryz.prog 70 #[.pointer (some ⟨c, 0, none⟩), .agg #[p0, .int .i64 X], .int .i64 I] w fun e w' => e = .returned (.int .i64 R) ∧ Below w.heap.size w w' := by
  have h64 : i * size ≤ 512000000 := Nat.le_trans (Nat.mul_le_mul hi hs) (by omega)
  obtain ⟨Z, hZ⟩ : ∃ Z : Int, Z = ((i * size : Nat) : Int) := ⟨_, rfl⟩
  have e0 : I * (size : Int) = Z := by rw [hZ, hI]; simp
  have z1 : IntKind.i64.wrap (I * (size : Int)) = Z := by rw [e0, IntKind.wrap_i64]; omega
  have z2 : IntKind.i64.wrap (X + 64) = X + 64 := by rw [IntKind.wrap_i64]; omega
  have z3 : IntKind.i64.wrap (X + 64 + Z) = R := by rw [IntKind.wrap_i64]; omega
  have h2 : (w.alloc (.cells #[p0, .int .i64 X] 140)).cell? ⟨c, 1, none⟩ = some (.int .i64 (size : Int)) := ((Below.refl _ w).alloc (Nat.le_refl _) _).cell (p := ⟨c, 1, none⟩) hc |>.trans h
  have h3 : (w.alloc (.cells #[p0, .int .i64 X] 140)).cell? ⟨w.heap.size, 1, none⟩ = some (.int .i64 X) := cell_of_row _ _ _ _ _ _ (heap_alloc_new w _)
  have HB : Hid (Below w.heap.size w (w.alloc (.cells #[p0, .int .i64 X] 140))) := Lib.hid ((Below.refl _ w).alloc (Nat.le_refl _) _)
  clear h64 hZ e0 hI hX hR hi hx hs hc h
  go_enter Tryz.func70, Tryz.ntmps70
  go_wp2_with fail
  generalize hw1 : w.alloc (.cells #[p0, .int .i64 X] 140) = w1 at h2 h3 HB ⊢
  go_quiet (fail)
  go_wp2
  go_ret
  exact ⟨rfl, below_drewN HB.out _⟩
end Go.Proofs.YtflkoabgkgegjaaGreatDoor
/- cmp.Compare at ints, the comparison of a page with an address, the binary search. Condition: the pages are read, rising. -/
namespace Go.Proofs.YtflkoabgkgegjaaGreatDoor
open Go.RowKit Go.Maps

/-- a slab: its page's number, its map's blocks, its map's words -/
structure Pg where
  q : Nat
  gm : Nat
  gw : Nat
  ws : List Nat
def pCells (P : List Pg) : List Value := P.flatMap fun p => [.pointer (some ⟨p.gm, 0, none⟩), .int .i64 ((1024 * p.q : Nat) : Int)]
theorem pCells_length : ∀ P : List Pg, (pCells P).length = P.length * 2
  | [] => rfl
  | x :: P => by
    have := pCells_length P
    simp only [pCells, List.flatMap_cons, List.length_append, List.length_cons, List.length_nil] at this ⊢
    omega
theorem pCells_app (P Q : List Pg) : pCells (P ++ Q) = pCells P ++ pCells Q := by simp [pCells]
theorem pCells_one (P : List Pg) : ∀ u ∈ pCells P, u.oneCell' = true := by
  intro u hu
  simp only [pCells, List.mem_flatMap] at hu
  obtain ⟨p, _, hu⟩ := hu
  simp only [List.mem_cons, List.not_mem_nil, or_false] at hu
  rcases hu with rfl | rfl <;> rfl
theorem pCells_at : ∀ (P : List Pg) (k : Nat) (x : Pg), P[k]? = some x → (pCells P)[k * 2]? = some (.pointer (some ⟨x.gm, 0, none⟩)) ∧ (pCells P)[k * 2 + 1]? = some (.int .i64 ((1024 * x.q : Nat) : Int))
  | [], k, x, h => by simp at h
  | y :: P, 0, x, h => by
    simp only [List.getElem?_cons_zero, Option.some.injEq] at h
    subst h
    exact ⟨rfl, rfl⟩
  | y :: P, k + 1, x, h => by
    have := pCells_at P k x (by simpa using h)
    simp only [pCells, List.flatMap_cons] at this ⊢
    rw [show (k + 1) * 2 = k * 2 + 2 by omega, show k * 2 + 2 + 1 = k * 2 + 1 + 2 by omega]
    exact this
theorem SlR.pg {w : World} {A : Option Addr} {P : List Pg} (h : SlR w A (pCells P)) {k : Nat} (hk : k < P.length) : ∃ b off, A = some ⟨b, off, none⟩ ∧ b < w.heap.size ∧ w.cell? ⟨b, off + k * 2, none⟩ = some (.pointer (some ⟨P[k].gm, 0, none⟩)) ∧ w.cell? ⟨b, off + k * 2 + 1, none⟩ = some (.int .i64 ((1024 * P[k].q : Nat) : Int)) := by
  obtain ⟨b, off, e, hlt, hc⟩ := h (fun e => by have := pCells_length P; rw [e] at this; simp at this; omega)
  have h2 := pCells_at P k P[k] (List.getElem?_eq_getElem hk)
  exact ⟨b, off, e, hlt, hc _ _ h2.1, by rw [Nat.add_assoc]; exact hc _ _ h2.2⟩
def cmpI (x y : Int) : Int := if x < y then -1 else if y < x then 1 else 0
set_option maxRecDepth 100000 in
theorem isnan_any (x : Int) (w : World) : Calls Tryz.prog 100 #[.int .i64 x] w fun e w' => e = .returned (.bool false) ∧ w' = w := by
  have h : (x != x) = false := by simp
  go_enter Tryz.func100, Tryz.ntmps100
  go_wp2
  go_ret
  exact ⟨by first | rfl | simp, rfl⟩
set_option maxRecDepth 100000 in
theorem compare_i (x y : Int) (w : World) : Calls Tryz.prog 93 #[.int .i64 x, .int .i64 y] w fun e w' => e = .returned (.int .i64 (cmpI x y)) ∧ w' = w := by
  obtain ⟨c, hc⟩ : ∃ c, cmpI x y = c := ⟨_, rfl⟩
  rw [hc]
  unfold cmpI at hc
  have HC := Lib.hid hc
  clear hc
  go_enter Tryz.func93, Tryz.ntmps93
  go_wp2_with (go_at_call 100; refine (isnan_any _ _).mono ?_; rintro e w' ⟨rfl, rfl⟩)
  all_goals
    have hc := HC.out
    go_ret
    refine ⟨?_, rfl⟩
    subst hc
    first | (congr 2; split <;> first | rfl | omega | (split <;> first | rfl | omega)) | trace_state
set_option maxRecDepth 100000 in
theorem cmpf_any (p0 : Value) (hp0 : p0.oneCell' = true) (x y : Int) (w : World) : Calls Tryz.prog 92 #[.agg #[p0, .int .i64 x], .int .i64 y] w fun e w' => e = .returned (.int .i64 (cmpI x y)) ∧ Below w.heap.size w w' := by
  have HB : Hid (Below w.heap.size w (w.alloc (.cells #[p0, .int .i64 x] 140))) := Lib.hid ((Below.refl _ w).alloc (Nat.le_refl _) _)
  have h3 : (w.alloc (.cells #[p0, .int .i64 x] 140)).cell? ⟨w.heap.size, 1, none⟩ = some (.int .i64 x) := cell_of_row _ _ _ _ _ _ (heap_alloc_new w _)
  go_enter Tryz.func92, Tryz.ntmps92
  go_wp2_with (go_at_call 93; refine (compare_i _ _ _).mono ?_; rintro e w' ⟨rfl, rfl⟩)
  go_ret
  exact ⟨rfl, HB.out⟩
end Go.Proofs.YtflkoabgkgegjaaGreatDoor
