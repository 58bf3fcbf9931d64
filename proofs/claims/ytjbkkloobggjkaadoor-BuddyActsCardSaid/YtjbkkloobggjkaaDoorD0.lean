/- What no allocator answers; the allocator beside the reference. No condition. -/
import Derived.Test.YtjbkkloobggjkaaDoorC10
namespace Go.Proofs.YtjbkkloobggjkaaDoor
open Go.RowKit Go.Maps

theorem order_nil (x : Int) (w : World) : Calls Tryd.prog 12 #[.pointer none, .int .i64 x] w fun e w' => e = .returned (.int .i64 (-1)) ∧ w' = w := by
  go_enter Tryd.func12, Tryd.ntmps12
  go_wp2
  go_ret
  exact ⟨rfl, rfl⟩
theorem greatest_nil (w : World) : Calls Tryd.prog 16 #[.pointer none] w fun e w' => e = .returned (.int .i64 (-1)) ∧ w' = w := by
  go_enter Tryd.func16, Tryd.ntmps16
  go_wp2
  go_loopw [3] (fun k wr => k = .int .i64 20 ∧ wr = w) (fun _ _ => 0)
  case atStart => exact ⟨rfl, rfl⟩
  case round =>
    obtain ⟨rfl, rfl⟩ := hrel
    go_wp2
    go_ret
    exact ⟨rfl, rfl⟩
theorem free_nil (w : World) : Calls Tryd.prog 13 #[.pointer none] w fun e w' => ∃ A cap, e = .returned (.slice A 0 cap) ∧ Below w.heap.size w w' := by
  go_enter Tryd.func13, Tryd.ntmps13
  go_wp2
  go_loopw [3, 4] (fun o k wr => k = .int .i64 0 ∧ o = .slice none 0 0 ∧ wr = w) (fun _ _ _ => 0)
  case atStart => exact ⟨rfl, rfl, rfl⟩
  case round =>
    obtain ⟨rfl, rfl, rfl⟩ := hrel
    go_wp2_with fail
    refine (sorted_b [] List.Pairwise.nil none 0 0 wr.heap.size rfl _ (World.ownsRow_nil _ _ _ _) (Nat.le_refl _) (by omega)).mono ?_
    rintro e w' ⟨M, rfl, hp, hri, hh, hb2⟩
    have HB := Lib.hid hb2
    clear hp hri hh hb2
    go_wp2
    go_ret
    exact ⟨none, 0, rfl, HB.out⟩
theorem used_nil (w : World) : Calls Tryd.prog 14 #[.pointer none] w fun e w' => ∃ A cap, e = .returned (.slice A 0 cap) ∧ Below w.heap.size w w' := by
  go_enter Tryd.func14, Tryd.ntmps14
  go_wp2_with fail
  refine (sorted_b [] List.Pairwise.nil none 0 0 w.heap.size rfl _ (World.ownsRow_nil _ _ _ _) (Nat.le_refl _) (by omega)).mono ?_
  rintro e w' ⟨M, rfl, hp, hri, hh, hb2⟩
  have HB := Lib.hid hb2
  clear hp hri hh hb2
  go_wp2
  go_ret
  exact ⟨none, 0, rfl, HB.out⟩
theorem left_nil (w : World) : Calls Tryd.prog 15 #[.pointer none] w fun e w' => e = .returned (.int .i64 0) ∧ Below w.heap.size w w' := by
  go_enter Tryd.func15, Tryd.ntmps15
  go_wp2_with fail
  refine (free_nil w).mono ?_
  rintro e w1 ⟨A, cap, rfl, hb⟩
  have HB := Lib.hid hb
  clear hb
  go_wp2
  go_loopw [3, 9] (fun s i wr => i = .int .i64 0 ∧ s = .int .i64 0 ∧ wr = w1) (fun _ _ _ => 0)
  case atStart => exact ⟨rfl, rfl, rfl⟩
  case round =>
    obtain ⟨rfl, rfl, rfl⟩ := hrel
    go_wp2
    go_ret
    exact ⟨rfl, HB.out⟩
theorem BG.kept {W w w' : World} {b top g : Nat} {gm gw : Nat → Nat} {mu n : Nat} {l : List Tl} (h : BG W [] w b top gm gw mu n l) (hg : w.grownBy w' (some g)) (ho : ∃ cs, w.heap[g]? = some (.cells cs 42 (0, 0))) (hn : W.heap.size ≤ g) : BG W [] w' b top gm gw mu n l := by
  obtain ⟨F, U, h1, h2⟩ := h.ex
  obtain ⟨cs, hcs⟩ := ho
  have hne : ∀ (a : Nat) (xs : Array Value) (t : TypeId), w.heap[a]? = some (.cells xs t (0, 0)) → t ≠ 42 → some a ≠ some g := fun a xs t hh ht e => by
    injection e with e
    subst e
    rw [hcs] at hh
    injection hh with hh
    injection hh with _ h2
    exact ht h2.symm
  refine ⟨⟨F, U, ⟨h1.way.trans (grownBy_below hg hn h1.way.size), h1.tle, (hg.block b (blt h1.row) (hne _ _ _ h1.row (by decide))).trans h1.row, fun k hk => ?_, h1.wnew, h1.inj, h1.used.grown hg (fun e => ?_), h1.unew, fun s hs => absurd hs List.not_mem_nil⟩, h2⟩, h.good⟩
  · obtain ⟨ws, m1, m2⟩ := h1.maps k hk
    exact ⟨ws, ⟨(hg.block _ m1.lt.1 (hne _ _ _ m1.1 (by decide))).trans m1.1, (hg.block _ m1.lt.2 (hne _ _ _ m1.2.1 (by decide))).trans m1.2.1, m1.2.2⟩, m2⟩
  · injection e with e
    obtain ⟨es, cl, hu⟩ := h1.used.obj
    rw [e, hcs] at hu
    injection hu with hu
    cases hu
/-- the allocator and the reference side by side -/
structure AC (W w : World) (b top : Nat) (gm gw : Nat → Nat) (mu n : Nat) (l : List Tl) (g : Nat) (A1 : Option Addr) (c1 : Nat) (A2 : Option Addr) (c2 : Nat) (r : List Tl) : Prop where
  bg : BG W [(some ⟨g, 0, none⟩, [.int .i64 (top : Int), .slice A1 (blks true 0 r).length c1, .slice A2 (blks false 0 r).length c2]), (A1, bCells (blks true 0 r)), (A2, bCells (blks false 0 r))] w b top gm gw mu n l
  cf : (blks true 0 r).length ≤ c1
  cu : (blks false 0 r).length ≤ c2
  new : W.heap.size ≤ g
section
variable {W w w' : World} {b top : Nat} {gm gw : Nat → Nat} {mu n : Nat} {l r : List Tl} {g : Nat} {A1 A2 : Option Addr} {c1 c2 : Nat}
theorem AC.rb (h : AC W w b top gm gw mu n l g A1 c1 A2 c2 r) : RB w g top A1 c1 (blks true 0 r) A2 c2 (blks false 0 r) :=
  ⟨h.bg.held (by simp), h.bg.held (by simp), h.bg.held (by simp), h.cf, h.cu⟩
theorem AC.of (h : BG W [] w b top gm gw mu n l) (hr : RB w g top A1 c1 (blks true 0 r) A2 c2 (blks false 0 r)) (hn : W.heap.size ≤ g) : AC W w b top gm gw mu n l g A1 c1 A2 c2 r :=
  ⟨((h.hold hr.u).hold hr.f).hold hr.row, hr.cf, hr.cu, hn⟩
theorem AC.below (h : AC W w b top gm gw mu n l g A1 c1 A2 c2 r) (hb : Below w.heap.size w w') : AC W w' b top gm gw mu n l g A1 c1 A2 c2 r :=
  ⟨h.bg.below hb, h.cf, h.cu, h.new⟩
theorem AC.mono {n' : Nat} (h : AC W w b top gm gw mu n l g A1 c1 A2 c2 r) (hn : n ≤ n') : AC W w b top gm gw mu n' l g A1 c1 A2 c2 r :=
  ⟨h.bg.mono hn, h.cf, h.cu, h.new⟩
theorem AC.way (h : AC W w b top gm gw mu n l g A1 c1 A2 c2 r) : Below W.heap.size W w := h.bg.way
/-- the reference turns -/
theorem AC.turn {r' : List Tl} (h : AC W w b top gm gw mu n l g A1 c1 A2 c2 r) (hg : w.grownBy w' (some g)) (hr : ∃ B1 d1 B2 d2, RB w' g top B1 d1 (blks true 0 r') B2 d2 (blks false 0 r')) : ∃ B1 d1 B2 d2, AC W w' b top gm gw mu n l g B1 d1 B2 d2 r' := by
  obtain ⟨B1, d1, B2, d2, hr⟩ := hr
  obtain ⟨cs, hcs, _⟩ := h.rb.obj
  exact ⟨B1, d1, B2, d2, .of ((h.bg.sub (S' := []) (fun s hs => absurd hs List.not_mem_nil)).kept hg ⟨cs, hcs⟩ h.new) hr h.new⟩
theorem atake (h : AC W w b top gm gw mu n l g A1 c1 A2 c2 r) (hT : TabZ W) (hn : n < 1000) (o at_ er : Int) (l' : List Tl) (hc : takeC top l o = (at_, er, l')) :
    Calls Tryd.prog 10 #[.pointer (some ⟨b, 0, none⟩), .int .i64 o] w fun e w' => e = .returned (.tuple #[.int .i64 at_, .int .i64 er]) ∧ AC W w' b top gm gw mu (n + 1) l' g A1 c1 A2 c2 r :=
  (take_l h.bg hT hn o at_ er l' hc).mono fun e w' ⟨he, hb⟩ => ⟨he, hb, h.cf, h.cu, h.new⟩
theorem agive (h : AC W w b top gm gw mu n l g A1 c1 A2 c2 r) (x : Int) (hx : (Lit.int .i64 x).wf = true) (er : Int) (l' : List Tl) (hc : giveC top l x = (er, l')) :
    Calls Tryd.prog 11 #[.pointer (some ⟨b, 0, none⟩), .int .i64 x] w fun e w' => e = .returned (.int .i64 er) ∧ AC W w' b top gm gw mu n l' g A1 c1 A2 c2 r :=
  (give_l h.bg x hx er l' hc).mono fun e w' ⟨he, hb⟩ => ⟨he, hb, h.cf, h.cu, h.new⟩
theorem artake (h : AC W w b top gm gw mu n l g A1 c1 A2 c2 r) (hg : Good top r) (o at_ er : Int) (r' : List Tl) (hc : takeC top r o = (at_, er, r')) :
    Calls Tryd.prog 18 #[.pointer (some ⟨g, 0, none⟩), .int .i64 o] w fun e w' => e = .returned (.tuple #[.int .i64 at_, .int .i64 er]) ∧ ∃ B1 d1 B2 d2, AC W w' b top gm gw mu n l g B1 d1 B2 d2 r' :=
  (rtake_any h.rb hg h.bg.tle o).mono fun e w' ⟨a1, e1, he, l1, hr, hb, hgr⟩ => by
    have := hr.eq
    rw [hc] at this
    injection this with h1 h2
    injection h2 with h2 h3
    subst h1 h2 h3
    exact ⟨he, h.turn hgr hb⟩
theorem argive (h : AC W w b top gm gw mu n l g A1 c1 A2 c2 r) (hg : Good top r) (x er : Int) (r' : List Tl) (hc : giveC top r x = (er, r')) :
    Calls Tryd.prog 19 #[.pointer (some ⟨g, 0, none⟩), .int .i64 x] w fun e w' => e = .returned (.int .i64 er) ∧ ∃ B1 d1 B2 d2, AC W w' b top gm gw mu n l g B1 d1 B2 d2 r' :=
  (rgive_any h.rb hg h.bg.tle x).mono fun e w' ⟨e1, he, l1, hr, hb, hgr⟩ => by
    have := hr.eq
    rw [hc] at this
    injection this with h1 h2
    subst h1 h2
    exact ⟨he, h.turn hgr hb⟩
end
/-- a size that may be is a power of two -/
theorem size_cases (n : Int) : (∃ t, t ≤ 14 ∧ n = ((65536 * 2 ^ t : Nat) : Int)) ∨ ((∀ p : Nat, MayS n p → (p : Int) ≠ n) ∧ (n < 65536 ∨ 1073741824 < n ∨ (65536 ≤ n ∧ n ≤ 1073741824 ∧ pop n.toNat ≠ 1))) := by
  by_cases h : ∃ t, t ≤ 14 ∧ n = ((65536 * 2 ^ t : Nat) : Int)
  · exact .inl h
  · refine .inr ⟨fun p ⟨k, hk, hp, _⟩ e => h ⟨k, hk, by rw [← e, hp]⟩, ?_⟩
    by_cases h1 : n < 65536
    · exact .inl h1
    by_cases h2 : 1073741824 < n
    · exact .inr (.inl h2)
    refine .inr (.inr ⟨by omega, by omega, fun hp => h ?_⟩)
    obtain ⟨m, rfl⟩ := Int.eq_ofNat_of_zero_le (show 0 ≤ n by omega)
    rw [Int.toNat_natCast] at hp
    obtain ⟨b, hb, hm⟩ := pop_one m (by omega) hp
    have b16 : 16 ≤ b := by
      rcases Nat.lt_or_ge b 16 with h3 | h3
      · have : 2 ^ b < 2 ^ 16 := Nat.pow_lt_pow_right (by omega) h3
        have e : (2 : Nat) ^ 16 = 65536 := by decide
        omega
      · exact h3
    have b30 : b ≤ 30 := by
      rcases Nat.lt_or_ge 30 b with h3 | h3
      · have : 2 ^ 31 ≤ 2 ^ b := Nat.pow_le_pow_right (by omega) h3
        have e : (2 : Nat) ^ 31 = 2147483648 := by decide
        omega
      · exact h3
    refine ⟨b - 16, by omega, ?_⟩
    rw [hm, show (65536 : Nat) = 2 ^ 16 by decide, ← Nat.pow_add, show 16 + (b - 16) = b by omega]
theorem may_pow {t : Nat} (ht : t ≤ 14) {p : Nat} (h : MayS ((65536 * 2 ^ t : Nat) : Int) p) : (p : Int) = ((65536 * 2 ^ t : Nat) : Int) := by
  by_cases e : (p : Int) = ((65536 * 2 ^ t : Nat) : Int)
  · exact e
  · exfalso
    have h1 := pow_bound t ht
    have h2 := Nat.two_pow_pos t
    rcases may_no h e with q | q | ⟨_, _, q⟩
    · omega
    · omega
    · rw [Int.toNat_natCast] at q
      exact q (pop_pow14 t ht)
end Go.Proofs.YtjbkkloobggjkaaDoor
