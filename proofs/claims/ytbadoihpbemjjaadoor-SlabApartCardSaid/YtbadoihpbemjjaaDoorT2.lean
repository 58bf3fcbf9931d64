/- The binary search, find. Condition: the pages are read, rising. -/
import Derived.Test.YtbadoihpbemjjaaDoorT1
namespace Go.Proofs.YtbadoihpbemjjaaDoor
open Go.RowKit Go.Maps

/-- the place of an address among rising pages -/
structure PlaceOf (P : List Pg) (at_ : Int) (i : Nat) : Prop where
  le : i ≤ P.length
  lo : ∀ k (h : k < P.length), k < i → ((1024 * P[k].q : Nat) : Int) < at_
  hi : ∀ k (h : k < P.length), i ≤ k → at_ ≤ ((1024 * P[k].q : Nat) : Int)
theorem PlaceOf.one {P : List Pg} {at_ : Int} {i j : Nat} (h : PlaceOf P at_ i) (g : PlaceOf P at_ j) : i = j := by
  rcases Nat.lt_trichotomy i j with q | q | q
  · have h1 := h.hi i (by have := g.le; omega) (Nat.le_refl _)
    have h2 := g.lo i (by have := g.le; omega) q
    omega
  · exact q
  · have h1 := g.hi j (by have := h.le; omega) (Nat.le_refl _)
    have h2 := h.lo j (by have := h.le; omega) q
    omega
def RisesQ (P : List Pg) : Prop := P.Pairwise fun x y => x.q < y.q
theorem RisesQ.at {P : List Pg} (h : RisesQ P) {i j : Nat} (hi : i < P.length) (hj : j < P.length) (hij : i < j) : P[i].q < P[j].q := List.pairwise_iff_getElem.1 h i j hi hj hij
set_option maxRecDepth 100000 in
set_option maxHeartbeats 1600000 in
theorem bsearch_any (P : List Pg) (hP : RisesQ P) (n : Nat) (hn : P.length = n) (hl : n ≤ 1048576) (A : Option Addr) (cap : Nat) (at_ : Int) (i : Nat) (hi : PlaceOf P at_ i) (ok : Bool) (hok : ok = true ↔ ∃ h : i < P.length, ((1024 * P[i].q : Nat) : Int) = at_) (w : World) (hA : SlR w A (pCells P)) :
    Calls Tryd.prog 58 #[.slice A n cap, .int .i64 at_, .func (.func 59) #[] #[]] w fun e w' => e = .returned (.tuple #[.int .i64 (i : Int), .bool ok]) ∧ Below w.heap.size w w' := by
  have HA := Lib.hid hA
  have HP := Lib.hid hP
  have HI := Lib.hid hi
  have HOK := Lib.hid hok
  have HN := Lib.hid hn
  have HL := Lib.hid hl
  clear hA hP hi hok hn hl
  go_enter Tryd.func58, Tryd.ntmps58
  go_wp2
  go_loopw [9, 10] (fun x y wr => ∃ a b : Nat, x = .int .i64 (a : Int) ∧ y = .int .i64 (b : Int) ∧ a ≤ b ∧ b ≤ n ∧ (∀ k (h : k < P.length), k < a → ((1024 * P[k].q : Nat) : Int) < at_) ∧ (∀ k (h : k < P.length), b ≤ k → at_ ≤ ((1024 * P[k].q : Nat) : Int)) ∧ Below w.heap.size w wr) (fun x y _ => (intOf y).toNat - (intOf x).toNat)
  case atStart => exact ⟨0, n, rfl, rfl, Nat.zero_le _, Nat.le_refl _, fun k h h2 => absurd h2 (Nat.not_lt_zero _), fun k h h2 => by have := HN.out; omega, Below.refl _ _⟩
  case round =>
    obtain ⟨a, b, rfl, rfl, hab, hbn, hlo, hhi, hwr⟩ := hrel
    have HLO := Lib.hid hlo
    have HHI := Lib.hid hhi
    have HWR := Lib.hid hwr
    by_cases hlt : a < b
    · have hm : (a + b) / 2 < P.length := by have := HN.out; omega
      obtain ⟨m, hme⟩ : ∃ m, (a + b) / 2 = m := ⟨_, rfl⟩
      rw [hme] at hm
      obtain ⟨g, off, rfl, hg, c0, c1⟩ := (HA.out.below hwr).pg hm
      have q1 : decide ((a : Int) < (b : Int)) = true := decide_eq_true (by omega)
      have q1' : (a : Int) < (b : Int) := by omega
      have ln := HL.out
      have z1 : IntKind.i64.wrap ((a : Int) + (b : Int)) = (a : Int) + (b : Int) := by rw [IntKind.wrap_i64]; omega
      have z2 : IntKind.u64.wrap ((a : Int) + (b : Int)) = (a : Int) + (b : Int) := by rw [IntKind.wrap_u64]; omega
      have z3 : ((a : Int) + (b : Int)) / 2 = (m : Int) := by omega
      have z4 : IntKind.i64.wrap (m : Int) = (m : Int) := by rw [IntKind.wrap_i64]; omega
      have z5 : IntKind.i64.wrap ((m : Int) + 1) = (m : Int) + 1 := by rw [IntKind.wrap_i64]; omega
      have m0 : (0 : Int) ≤ (m : Int) := by omega
      have m1 : (m : Int) < (n : Int) := by omega
      obtain ⟨X, hX⟩ : ∃ X : Int, ((1024 * P[m].q : Nat) : Int) = X := ⟨_, rfl⟩
      obtain ⟨G, hG⟩ : ∃ G : Nat, P[m].gm = G := ⟨_, rfl⟩
      rw [hX] at c1
      rw [hG] at c0
      obtain ⟨C, hC⟩ : ∃ C : Int, cmpI X at_ = C := ⟨_, rfl⟩
      have HC := Lib.hid hC
      have HX : Hid (m < P.length ∧ ∀ h : m < P.length, ((1024 * P[m].q : Nat) : Int) = X) := Lib.hid ⟨hm, fun _ => hX⟩
      have HM : Hid (a ≤ m ∧ m < b ∧ b ≤ n) := Lib.hid (by omega)
      have hXm := hX
      by_cases qx : X < at_
      · have q2 : decide (C < 0) = true := decide_eq_true (by rw [← hC]; unfold cmpI; rw [if_pos qx]; omega)
        have HQ := Lib.hid qx
        clear hlo hhi hwr hX hG hC qx hXm hm hab hbn hlt hme
        go_wp2_with (go_at_call 59; refine (cmpf_any _ rfl X at_ _).mono ?_; rintro e w2 ⟨rfl, h2⟩; rw [HC.out])
        go_roundw
        case rel => exact ⟨m + 1, b, by go_num, rfl, by have := HM.out; omega, by have := HM.out; omega, fun k h hk => by
          have hx := HX.out.2 HX.out.1
          by_cases e : k = m
          · subst e
            rw [hx]
            exact HQ.out
          · have := HP.out.at h HX.out.1 (by omega)
            have := HQ.out
            omega, HHI.out, HWR.out.trans (h2.mono HWR.out.size)⟩
        case measure =>
          have := HM.out
          (try simp [intOf]) <;> omega
      · have q2 : decide (C < 0) = false := decide_eq_false (by rw [← hC]; unfold cmpI; rw [if_neg qx]; split <;> omega)
        have HQ := Lib.hid qx
        clear hlo hhi hwr hX hG hC qx hXm hm hab hbn hlt hme
        go_wp2_with (go_at_call 59; refine (cmpf_any _ rfl X at_ _).mono ?_; rintro e w2 ⟨rfl, h2⟩; rw [HC.out])
        go_roundw
        case rel => exact ⟨a, m, rfl, rfl, HM.out.1, by have := HM.out; omega, HLO.out, fun k h hk => by
          have hx := HX.out.2 HX.out.1
          by_cases e : k = m
          · subst e
            rw [hx]
            have := HQ.out
            omega
          · have := HP.out.at HX.out.1 h (by omega)
            have := HQ.out
            omega, HWR.out.trans (h2.mono HWR.out.size)⟩
        case measure =>
          have := HM.out
          (try simp [intOf]) <;> omega
    · have e : a = b := by omega
      subst e
      have ei : a = i := PlaceOf.one ⟨by have := HN.out; omega, hlo, hhi⟩ HI.out
      subst ei
      have q1 : decide ((a : Int) < (a : Int)) = false := decide_eq_false (by omega)
      by_cases hlt2 : a < P.length
      · obtain ⟨g, off, rfl, hg, c0, c1⟩ := (HA.out.below hwr).pg hlt2
        obtain ⟨X, hX⟩ : ∃ X : Int, ((1024 * P[a].q : Nat) : Int) = X := ⟨_, rfl⟩
        obtain ⟨G, hG⟩ : ∃ G : Nat, P[a].gm = G := ⟨_, rfl⟩
        rw [hX] at c1
        rw [hG] at c0
        obtain ⟨C, hC⟩ : ∃ C : Int, cmpI X at_ = C := ⟨_, rfl⟩
        have HC := Lib.hid hC
        have m0 : (0 : Int) ≤ (a : Int) := by omega
        have m1 : (a : Int) < (n : Int) := by have := HN.out; omega
        have q2 : (C == 0) = ok := by
          have : ok = true ↔ X = at_ := HOK.out.trans ⟨fun ⟨_, h⟩ => hX.symm.trans h, fun h => ⟨hlt2, hX.trans h⟩⟩
          rw [Bool.eq_iff_iff, this, beq_iff_eq, ← hC]
          unfold cmpI
          split
          · omega
          · split <;> omega
        clear hlo hhi hwr hX hG hC hlt2 hab hbn hlt
        go_wp2_with (go_at_call 59; refine (cmpf_any _ rfl X at_ _).mono ?_; rintro e w2 ⟨rfl, h2⟩; rw [HC.out])
        go_ret2
        exact ⟨rfl, HWR.out.trans (h2.mono HWR.out.size)⟩
      · have m1 : ¬ ((a : Int) < (n : Int)) := by have := HN.out; omega
        have q2 : ok = false := by
          rw [Bool.eq_false_iff]
          intro h
          obtain ⟨h2, _⟩ := HOK.out.1 h
          exact hlt2 h2
        clear hlo hhi hwr hlt2 hab hbn hlt HOK
        subst q2
        go_wp2
        go_ret2
        exact ⟨rfl, HWR.out⟩
set_option maxRecDepth 100000 in
theorem find_any (P : List Pg) (hP : RisesQ P) (c b : Nat) (size : Int) (n : Nat) (hn : P.length = n) (hl : n ≤ 1048576) (A : Option Addr) (cap : Nat) (at_ : Int) (i : Nat) (hi : PlaceOf P at_ i) (ok : Bool) (hok : ok = true ↔ ∃ h : i < P.length, ((1024 * P[i].q : Nat) : Int) = at_) (w : World) (hA : SlR w A (pCells P)) (h2 : w.cell? ⟨c, 2, none⟩ = some (.slice A n cap)) :
    Calls Tryd.prog 36 #[.pointer (some ⟨c, 0, none⟩), .int .i64 at_] w fun e w' => e = .returned (.tuple #[.int .i64 (i : Int), .bool ok]) ∧ Below w.heap.size w w' := by
  have HA := Lib.hid hA
  have HP := Lib.hid hP
  have HI := Lib.hid hi
  have HOK := Lib.hid hok
  clear hA hP hi hok
  go_enter Tryd.func36, Tryd.ntmps36
  go_wp2_with (go_at_call 58; refine (bsearch_any P HP.out n hn hl A cap at_ i HI.out ok HOK.out w HA.out).mono ?_; rintro e w2 ⟨rfl, h2⟩)
  go_ret2
  exact ⟨rfl, h2⟩
end Go.Proofs.YtbadoihpbemjjaaDoor
