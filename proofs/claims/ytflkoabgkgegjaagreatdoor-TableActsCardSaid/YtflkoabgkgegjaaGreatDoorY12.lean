/- The iterator over used places. Condition: the cache's state. And what follows from it. -/
import Derived.RangeFuncNested
import Derived.RangeFuncBound
import Derived.RangeFuncCalls
import Derived.RangeFuncLeaves
import Derived.Shelf.Abstract
import Derived.WalkKit
import Derived.OwnWalkIn
import Derived.TacticsInMore
import Derived.LoopNIn
import Derived.LoopIn
import Derived.Test.YtflkoabgkgegjaaGreatDoorY11
import Derived.RangeFuncBox
import Derived.Maps.AppendAt
/- The iterator over used places. Condition: the cache's state. -/
namespace Go.Proofs.YtflkoabgkgegjaaGreatDoor
open Go.RowKit Go.Maps
attribute [local go_sem] Oper.semAt_some

/-- the used places of a slab below a number -/
def usedB (size : Nat) (p : Pg) (f : Nat) : List Int := ((List.range f).filter fun i => bitW p.ws i).map fun i => ((1024 * p.q + 64 + i * size : Nat) : Int)
/-- where used places begin -/
def usedC (M size : Nat) (P : List Pg) : List Int := P.flatMap fun p => usedB size p M
theorem usedB_zero (size : Nat) (p : Pg) : usedB size p 0 = [] := rfl
theorem usedB_skip {size : Nat} {p : Pg} {f : Nat} : ∀ {d : Nat}, (∀ j, f ≤ j → j < f + d → bitW p.ws j = false) → usedB size p (f + d) = usedB size p f
  | 0, _ => rfl
  | d + 1, h => by
    have ih := usedB_skip (size := size) (d := d) (fun j h1 h2 => h j h1 (by omega))
    rw [← ih]
    unfold usedB
    rw [← Nat.add_assoc, List.range_succ, List.filter_append, List.map_append]
    have : bitW p.ws (f + d) = false := h (f + d) (by omega) (by omega)
    simp [this]
theorem usedB_add {size : Nat} {p : Pg} {i : Nat} (h : bitW p.ws i = true) : usedB size p (i + 1) = usedB size p i ++ [((1024 * p.q + 64 + i * size : Nat) : Int)] := by
  unfold usedB
  rw [List.range_succ, List.filter_append, List.map_append]
  simp [h]
/-- what a round of a loop over used places keeps -/
def KpU (n₀ : Nat) (X Y : World) : Prop := Below n₀ X Y ∧ ∀ (g : Nat) (cs : Array Value) (t : TypeId), X.heap[g]? = some (.cells cs t (0, 0)) → t ≠ 3 → t ≠ 24 → Y.heap[g]? = some (.cells cs t (0, 0))
def measU (M : Nat) (r : Int) : Nat := if r < 0 then 0 else M + 1 - r.toNat
theorem grown_of_below {X Y : World} (h : Below X.heap.size X Y) : X.grownBy Y none := ⟨h.os, h.tape, h.output, h.size, fun p hp _ => h.block p hp⟩
variable {W w w' : World} {K : List (Nat × Obj)} {c b size M top : Nat} {gm gw : Nat → Nat} {mu n : Nat} {l : List Tl} {A : Option Addr} {cap : Nat} {P : List Pg}
theorem first_lit0 (on : Bool) (W : World) (gm gw n : Nat) (ws : List Nat) (f : Nat) (F : Int) (hF : F = (f : Int)) (hf : f ≤ 2000000000) (h : MapAt W gm gw n ws) (hT : TabZ W) :
    Calls Tryz.prog 69 #[.pointer (some ⟨gm, 0, none⟩), .bool on, .int .i64 F] W fun e w' => ∃ r, e = .returned (.int .i64 r) ∧ FirstS on n ws f r ∧ w' = W := by
  subst hF
  exact first_any on W gm gw n ws f hf h hT
theorem usedC_take (M size : Nat) (P : List Pg) (k : Nat) (hk : k < P.length) : usedC M size (P.take (k + 1)) = usedC M size (P.take k) ++ usedB size P[k] M := by
  unfold usedC
  rw [List.take_add_one, List.getElem?_eq_getElem hk, List.flatMap_append]
  simp only [Option.toList, List.flatMap_cons, List.flatMap_nil, List.append_nil]
theorem usedB_length (size : Nat) (p : Pg) (f : Nat) : (usedB size p f).length ≤ f := by
  unfold usedB
  rw [List.length_map]
  exact Nat.le_trans (List.length_filter_le _ _) (by simp)
theorem usedB_mono (size : Nat) (p : Pg) {f g : Nat} (h : f ≤ g) : (usedB size p f).length ≤ (usedB size p g).length := by
  obtain ⟨d, rfl⟩ := Nat.exists_eq_add_of_le h
  unfold usedB
  rw [List.length_map, List.length_map, List.range_add, List.filter_append, List.length_append]
  omega
theorem usedC_short {M size : Nat} {P : List Pg} {k f : Nat} (hk : k < P.length) (hf : f < M) (hb : bitW P[k].ws f = true) : (usedC M size (P.take k) ++ usedB size P[k] f).length < (usedC M size P).length := by
  have e : usedC M size P = usedC M size (P.take k) ++ usedB size P[k] M ++ usedC M size (P.drop (k + 1)) := by
    rw [← usedC_take M size P k hk]
    unfold usedC
    rw [← List.flatMap_append, List.take_append_drop]
  have h1 := usedB_mono size P[k] (show f + 1 ≤ M by omega)
  rw [usedB_add hb, List.length_append] at h1
  rw [e, List.length_append, List.length_append, List.length_append]
  simp only [List.length_cons, List.length_nil] at h1
  omega
end Go.Proofs.YtflkoabgkgegjaaGreatDoor
/- Used: where used places begin. Condition: the cache's state. -/
namespace Go.Proofs.YtflkoabgkgegjaaGreatDoor
open Go.RowKit Go.Maps
attribute [local go_sem] Oper.semAt_some
variable {W w w' : World} {K : List (Nat × Obj)} {c b size M top : Nat} {gm gw : Nat → Nat} {mu n : Nat} {l : List Tl} {A : Option Addr} {cap : Nat} {P : List Pg}

theorem usedC_length (M size : Nat) : ∀ P : List Pg, (usedC M size P).length ≤ P.length * M
  | [] => by simp [usedC]
  | p :: P => by
    have h1 := usedC_length M size P
    have h2 := usedB_length size p M
    simp only [usedC, List.flatMap_cons, List.length_append, List.length_cons] at h1 ⊢
    rw [Nat.add_mul]
    omega
theorem kpU_t {n₀ : Nat} {X Y Z : World} (h : KpU n₀ X Y) (k : KpU n₀ Y Z) : KpU n₀ X Z := ⟨h.1.trans k.1, fun g cs t hg h1 h2 => k.2 g cs t (h.2 g cs t hg h1 h2) h1 h2⟩
theorem kpU_b {n₀ : Nat} {w : World} (hn : n₀ ≤ w.heap.size) (W : World) (l : Nat) (o o' : Obj) (hl : w.heap.size ≤ l) (h : W.heap[l]? = some o) (hc : o.isCells = false) (hw : o.isWalk = false) : KpU n₀ W (W.putObj l o') :=
  ⟨belowK_b hn W l o o' hl h hc hw, fun g cs t hg _ _ => by
    rw [World.putObj_heap_other (fun e => by subst e; rw [h] at hg; injection hg with hg; subst hg; cases hc)]
    exact hg⟩
theorem ownsRow_blockv {w : World} {base : Nat} {e : TypeId} {size n : Nat} {v : Value} {xs : List Value} (h : w.ownsRow base e size v n xs) {g : Nat} (hg : some g = v.ownBlock) : ∃ cs, w.heap[g]? = some (.cells cs e (0, 0)) := by
  rcases h.2 with ⟨hv, _⟩ | ⟨g2, cap2, cur, hv, _, hh, _⟩
  · subst hv
    cases hg
  · subst hv
    injection hg with hg
    subst hg
    exact ⟨cur, hh⟩
theorem kpU_app {X w1 : World} {n₀ B k : Nat} {v v' : Value} {xs : List Value} {tmp : Obj} (hv : X.heap[B]? = some (.cells #[v] 24 (0, 0))) (hrow : X.ownsRow n₀ 3 1 v k xs) (hg : (X.alloc tmp).grownBy w1 v.ownBlock) (hb : Below n₀ X (w1.setCell ⟨B, 0, none⟩ v')) : KpU n₀ X (w1.setCell ⟨B, 0, none⟩ v') :=
  ⟨hb, fun g cs t hc h1 h2 => by
    have hlt := blt hc
    have e1 : (X.alloc tmp).heap[g]? = some (.cells cs t (0, 0)) := (((Below.refl _ X).alloc (Nat.le_refl _) tmp).block g hlt).trans hc
    have e2 : w1.heap[g]? = some (.cells cs t (0, 0)) := (hg.block g (blt e1) (fun e => by
      obtain ⟨ds, hd⟩ := ownsRow_blockv hrow e
      rw [hc] at hd
      injection hd with hd
      injection hd with _ h3
      exact h1 h3)).trans e1
    have bc : w1.grownBy (w1.setCell ⟨B, 0, none⟩ v') (some B) := gb_set (World.grownBy.refl _ _) _ _
    refine (bc.block g (blt e2) (fun e => ?_)).trans e2
    injection e with e
    subst e
    rw [hc] at hv
    injection hv with hv
    injection hv with _ h3
    exact h2 h3⟩
end Go.Proofs.YtflkoabgkgegjaaGreatDoor
/- spot, Has. Condition: the cache's state. -/
namespace Go.Proofs.YtflkoabgkgegjaaGreatDoor
open Go.RowKit Go.Maps
variable {W w w' : World} {K : List (Nat × Obj)} {c b size M top : Nat} {gm gw : Nat → Nat} {mu n : Nat} {l : List Tl} {A : Option Addr} {cap : Nat} {P : List Pg}

theorem RisesQ.place {P : List Pg} (h : RisesQ P) (x : Nat) : ∃ i ok, PlaceOf P ((1024 * x : Nat) : Int) i ∧ (ok = true ↔ ∃ h : i < P.length, ((1024 * P[i].q : Nat) : Int) = ((1024 * x : Nat) : Int)) := by
  induction P with
  | nil => exact ⟨0, false, ⟨Nat.le_refl _, fun k hk => absurd hk (Nat.not_lt_zero _), fun k hk => absurd hk (Nat.not_lt_zero _)⟩, fun h => (by cases h), fun ⟨h, _⟩ => absurd h (Nat.not_lt_zero _)⟩
  | cons p P ih =>
    obtain ⟨h1, h2⟩ := List.pairwise_cons.1 h
    by_cases q : p.q < x
    · obtain ⟨i, ok, hi, hok⟩ := ih h2
      refine ⟨i + 1, ok, ⟨Nat.succ_le_succ hi.le, fun k hk hk2 => ?_, fun k hk hk2 => ?_⟩, hok.trans ⟨fun ⟨h, e⟩ => ⟨Nat.succ_lt_succ h, e⟩, fun ⟨h, e⟩ => ⟨Nat.lt_of_succ_lt_succ h, e⟩⟩⟩
      · cases k with
        | zero => simp only [List.getElem_cons_zero]; omega
        | succ k => exact hi.lo k (Nat.lt_of_succ_lt_succ hk) (by omega)
      · cases k with
        | zero => omega
        | succ k => exact hi.hi k (Nat.lt_of_succ_lt_succ hk) (by omega)
    · refine ⟨0, decide (p.q = x), ⟨Nat.zero_le _, fun k hk hk2 => absurd hk2 (Nat.not_lt_zero _), fun k hk _ => ?_⟩, ?_⟩
      · cases k with
        | zero => simp only [List.getElem_cons_zero]; omega
        | succ k =>
          have := h1 _ (List.getElem_mem (Nat.lt_of_succ_lt_succ hk))
          simp only [List.getElem_cons_succ]
          omega
      · rw [decide_eq_true_iff]
        constructor
        · rintro rfl
          exact ⟨Nat.zero_lt_succ _, rfl⟩
        · rintro ⟨_, e⟩
          simp only [List.getElem_cons_zero] at e
          omega
set_option maxRecDepth 100000 in
theorem spot_neg (x : Int) (hx : x < 0) (c : Nat) (w : World) : Calls Tryz.prog 84 #[.pointer (some ⟨c, 0, none⟩), .int .i64 x] w fun e w' => e = .returned (.tuple #[.int .i64 0, .int .i64 0, .bool false]) ∧ w' = w := by
  have t1 : decide (x < 0) = true := decide_eq_true hx
  clear hx
  go_enter Tryz.func84, Tryz.ntmps84
  go_wp2
  go_ret3
  exact ⟨rfl, rfl⟩
set_option maxRecDepth 100000 in
set_option maxHeartbeats 1600000 in
theorem spot_any (h : SGx W K w c b size M top gm gw mu n l A cap P) (hl : P.length ≤ 1048576) (hs : 0 < size) (hs2 : size ≤ 512) (N : Nat) (X : Int) (hX : X = (N : Int)) (hN : N < 9223372036854775808) (i : Nat) (ok : Bool) (hi : PlaceOf P ((1024 * (N / 1024) : Nat) : Int) i) (hok : ok = true ↔ ∃ h : i < P.length, ((1024 * P[i].q : Nat) : Int) = ((1024 * (N / 1024) : Nat) : Int)) (r1 r2 : Nat) (r : Bool)
    (hr : (r = true ∧ r1 = i ∧ (∃ h : i < P.length, P[i].q = N / 1024 ∧ 64 ≤ N % 1024 ∧ (N % 1024 - 64) % size = 0 ∧ r2 = (N % 1024 - 64) / size ∧ r2 < M ∧ bitW P[i].ws r2 = true)) ∨ (r = false ∧ r1 = 0 ∧ r2 = 0 ∧ ∀ h : i < P.length, P[i].q = N / 1024 → 64 ≤ N % 1024 → (N % 1024 - 64) % size = 0 → ¬ ((N % 1024 - 64) / size < M ∧ bitW P[i].ws ((N % 1024 - 64) / size) = true))) :
    Calls Tryz.prog 84 #[.pointer (some ⟨c, 0, none⟩), .int .i64 X] w fun e w' => e = .returned (.tuple #[.int .i64 (r1 : Int), .int .i64 (r2 : Int), .bool r]) ∧ Below w.heap.size w w' := by
  have H := Lib.hid h
  have HI := Lib.hid hi
  have HOK := Lib.hid hok
  have HR := Lib.hid hr
  have HS : Hid (P.length ≤ 1048576 ∧ 0 < size ∧ size ≤ 512 ∧ N < 9223372036854775808) := Lib.hid ⟨hl, hs, hs2, hN⟩
  have HX := Lib.hid hX
  have c2 := h.c2
  obtain ⟨m, hm⟩ : ∃ m, P.length = m := ⟨_, rfl⟩
  rw [hm] at c2
  have HM := Lib.hid hm
  have t1 : decide (X < 0) = false := decide_eq_false (by omega)
  obtain ⟨Q, hQ⟩ : ∃ Q : Int, Q = ((1024 * (N / 1024) : Nat) : Int) := ⟨_, rfl⟩
  obtain ⟨D, hD⟩ : ∃ D : Int, D = ((N / 1024 : Nat) : Int) := ⟨_, rfl⟩
  have z1 : wrap64 (X.tdiv 1024) = D := by
    rw [hX, Int.tdiv_eq_ediv_of_nonneg (by omega), wrap64]
    omega
  have z2 : IntKind.i64.wrap (D * 1024) = Q := by rw [IntKind.wrap_i64]; omega
  have HQ := Lib.hid hQ
  clear h hi hok hr hl hs hs2 hN hX hm hQ hD
  go_enter Tryz.func84, Tryz.ntmps84
  go_wp2_with fail
  refine (find_any P H.out.rise c b size m HM.out (by have := HS.out; have := HM.out; omega) A cap Q i (by rw [HQ.out]; exact HI.out) ok (by rw [HQ.out]; exact HOK.out) w H.out.sl c2).mono ?_
  rintro e w2 ⟨rfl, b2⟩
  have h2 := H.out.below b2
  have HB2 := Lib.hid b2
  have H2 := Lib.hid h2
  obtain ⟨E, hE⟩ : ∃ E : Int, E = ((N % 1024 : Nat) : Int) := ⟨_, rfl⟩
  obtain ⟨I, hI⟩ : ∃ I : Int, I = E - 64 := ⟨_, rfl⟩
  have z3 : X.tmod 1024 = E := by rw [HX.out, Int.tmod_eq_emod_of_nonneg (by omega), hE]; rfl
  have z4 : IntKind.i64.wrap (E - 64) = I := by rw [IntKind.wrap_i64]; omega
  have HI64 : Hid (I = ((N % 1024 : Nat) : Int) - 64) := Lib.hid (by omega)
  clear b2 h2 hE hI
  by_cases qo : ok = false
  · have e : r = false ∧ r1 = 0 ∧ r2 = 0 := by
      rcases HR.out with ⟨_, _, h, h3, _⟩ | ⟨h1, h2, h3, _⟩
      · have := HOK.out.2 ⟨h, by rw [h3]⟩
        rw [qo] at this; cases this
      · exact ⟨h1, h2, h3⟩
    obtain ⟨rfl, rfl, rfl⟩ := e
    clear HOK HR
    subst qo
    go_wp2_with fail
    go_quiet (fail)
    go_wp2
    go_ret3
    exact ⟨rfl, below_drewN HB2.out _⟩
  have hok : ok = true := by simpa using qo
  obtain ⟨hil, hiq0⟩ := HOK.out.1 hok
  have hiq : P[i].q = N / 1024 := by omega
  by_cases qi : I < 0
  · have e : r = false ∧ r1 = 0 ∧ r2 = 0 := by
      rcases HR.out with ⟨_, _, h, h3, h4, _⟩ | ⟨h1, h2, h3, _⟩
      · have := HI64.out; omega
      · exact ⟨h1, h2, h3⟩
    obtain ⟨rfl, rfl, rfl⟩ := e
    have q1 : decide (I < 0) = true := decide_eq_true qi
    clear HOK HR qo hil hiq0 hiq qi
    subst hok
    go_wp2_with fail
    go_quiet (fail)
    go_wp2
    go_ret3
    exact ⟨rfl, below_drewN HB2.out _⟩
  have q1 : decide (I < 0) = false := decide_eq_false qi
  obtain ⟨f, hf⟩ : ∃ f, N % 1024 - 64 = f := ⟨_, rfl⟩
  have hI2 : I = (f : Int) := by have := HI64.out; omega
  obtain ⟨s, hs⟩ : ∃ s : Int, (size : Int) = s := ⟨_, rfl⟩
  have c1 := H2.out.c1
  rw [hs] at c1
  have n0 : ¬ (s = 0) := by have := HS.out; omega
  have zm : I.tmod s = ((f % size : Nat) : Int) := by rw [hI2, ← hs, Int.tmod_eq_emod_of_nonneg (by omega)]; rfl
  by_cases qm : f % size = 0
  · have q2 : (I.tmod s != 0) = false := by rw [zm, qm]; rfl
    obtain ⟨j, hj⟩ : ∃ j, f / size = j := ⟨_, rfl⟩
    obtain ⟨J, hJ⟩ : ∃ J : Int, (j : Int) = J := ⟨_, rfl⟩
    have zd : wrap64 (I.tdiv s) = J := by
      have e : I.tdiv s = ((f / size : Nat) : Int) := by rw [hI2, ← hs, Int.tdiv_eq_ediv_of_nonneg (by omega)]; rfl
      have := Nat.div_le_self f size
      have := HS.out
      rw [e, wrap64]; omega
    obtain ⟨g, off, hA, hg, d0, d1⟩ := H2.out.sl.pg hil
    have c22 := H2.out.c2
    rw [HM.out] at c22
    have MK := Lib.hid (H2.out.maps _ (List.getElem_mem hil))
    obtain ⟨y, hy⟩ : ∃ y, P[i] = y := ⟨_, rfl⟩
    rw [hy] at d0 d1 MK hiq
    subst hA
    have i0 : (0 : Int) ≤ (i : Int) := by omega
    have i1 : (i : Int) < (m : Int) := by have := HM.out; omega
    have HG : Hid (getB M y.ws J = r) := Lib.hid (by
      unfold getB
      rw [← hJ, Int.toNat_natCast]
      rcases HR.out with ⟨h1, _, h, h3, h4, h5, h6, h7, h8⟩ | ⟨h1, _, _, h3⟩
      · rw [hf, hj] at h6
        subst h6
        rw [hy] at h8
        rw [h1, h8, Bool.and_true]
        exact decide_eq_true ⟨by omega, by omega⟩
      · have := h3 hil (by rw [hy]; exact hiq) (by have := HI64.out; omega) (by rw [hf]; exact qm)
        rw [hf, hj, hy] at this
        rw [h1, Bool.and_eq_false_iff]
        by_cases q : j < M
        · exact .inr (Bool.eq_false_iff.2 fun hb => this ⟨q, hb⟩)
        · exact .inl (decide_eq_false (by omega)))
    cases r with
    | false =>
      have e : r1 = 0 ∧ r2 = 0 := by
        rcases HR.out with ⟨h1, _⟩ | ⟨_, h2, h3, _⟩
        · cases h1
        · exact ⟨h2, h3⟩
      obtain ⟨rfl, rfl⟩ := e
      clear HOK HR qo hil hiq0 hiq qi hI2 hf hs zm qm hj hJ hy hg
      subst hok
      go_wp2_with fail
      go_quiet ((first | (go_at_call 62; exact Calls.quiet_of_same (get_lit _ y.gm y.gw M y.ws J _ HG.out (MK.out.below (below_drewN (Below.refl _ _) _))))))
      go_wp2
      go_ret3
      exact ⟨rfl, below_drewN HB2.out _⟩
    | true =>
      have e : r1 = i ∧ (r2 : Int) = J := by
        rcases HR.out with ⟨_, h1, h, h3, h4, h5, h6, _⟩ | ⟨h1, _⟩
        · rw [hf, hj] at h6
          exact ⟨h1, by rw [h6, hJ]⟩
        · cases h1
      obtain ⟨rfl, e2⟩ := e
      have HE := Lib.hid e2
      clear HOK HR qo hil hiq0 hiq qi hI2 hf hs zm qm hj hJ hy hg e2
      subst hok
      go_wp2_with fail
      go_quiet ((first | (go_at_call 62; exact Calls.quiet_of_same (get_lit _ y.gm y.gw M y.ws J _ HG.out (MK.out.below (below_drewN (Below.refl _ _) _))))))
      go_wp2_with fail
      go_quiet (fail)
      go_wp2
      go_ret3
      exact ⟨by show Ending.returned (.tuple #[.int .i64 (r1 : Int), .int .i64 (wrap64 (I.tdiv s)), .bool true]) = _; rw [zd, HE.out], below_drewN (below_drewN HB2.out _) _⟩
  · have e : r = false ∧ r1 = 0 ∧ r2 = 0 := by
      rcases HR.out with ⟨_, _, h, h3, h4, h5, _⟩ | ⟨h1, h2, h3, _⟩
      · rw [hf] at h5; exact absurd h5 qm
      · exact ⟨h1, h2, h3⟩
    obtain ⟨rfl, rfl, rfl⟩ := e
    have q2 : (I.tmod s != 0) = true := by rw [zm]; simp only [bne_iff_ne, ne_eq]; omega
    clear HOK HR qo hil hiq0 hiq qi hI2 hf hs zm qm
    subst hok
    go_wp2_with fail
    go_quiet (fail)
    go_wp2
    go_ret3
    exact ⟨rfl, below_drewN HB2.out _⟩
/-- is there such a used place? -/
def hasC (M size : Nat) (P : List Pg) (x : Int) : Bool := decide (x ∈ usedC M size P)
theorem mem_usedB {size : Nat} {p : Pg} {f : Nat} {x : Int} : x ∈ usedB size p f ↔ ∃ j, j < f ∧ bitW p.ws j = true ∧ x = ((1024 * p.q + 64 + j * size : Nat) : Int) := by
  unfold usedB
  simp only [List.mem_map, List.mem_filter, List.mem_range]
  constructor
  · rintro ⟨j, ⟨h1, h2⟩, rfl⟩
    exact ⟨j, h1, h2, rfl⟩
  · rintro ⟨j, h1, h2, rfl⟩
    exact ⟨j, ⟨h1, h2⟩, rfl⟩
theorem mem_usedC {M size : Nat} {P : List Pg} {x : Int} : x ∈ usedC M size P ↔ ∃ p ∈ P, ∃ j, j < M ∧ bitW p.ws j = true ∧ x = ((1024 * p.q + 64 + j * size : Nat) : Int) := by
  unfold usedC
  simp only [List.mem_flatMap, mem_usedB]
theorem place_mod {M size q j : Nat} (hM : M = 960 / size) (hs : 0 < size) (hj : j < M) : (1024 * q + 64 + j * size) / 1024 = q ∧ (1024 * q + 64 + j * size) % 1024 = 64 + j * size ∧ (64 + j * size - 64) % size = 0 ∧ (64 + j * size - 64) / size = j := by
  have h1 : (j + 1) * size ≤ 960 := by
    have : (j + 1) * size ≤ M * size := Nat.mul_le_mul_right _ hj
    have := Nat.div_mul_le_self 960 size
    rw [← hM] at this
    omega
  rw [Nat.add_mul, Nat.one_mul] at h1
  have e : 64 + j * size - 64 = j * size := by omega
  rw [e]
  exact ⟨by omega, by omega, Nat.mul_mod_left _ _, Nat.mul_div_cancel _ hs⟩
/-- a used place is found -/
theorem spot_yes (h : SGx W K w c b size M top gm gw mu n l A cap P) (hl : P.length ≤ 1048576) (hs : 0 < size) (hs2 : size ≤ 512) (hM : M = 960 / size) (P1 P2 : List Pg) (p : Pg) (hP : P = P1 ++ p :: P2) (hq : p.q < 1048576) (j : Nat) (hj : j < M) (hb : bitW p.ws j = true) (X : Int) (hX : X = ((1024 * p.q + 64 + j * size : Nat) : Int)) (k : Nat) (hk : k = P1.length) :
    Calls Tryz.prog 84 #[.pointer (some ⟨c, 0, none⟩), .int .i64 X] w fun e w' => e = .returned (.tuple #[.int .i64 (k : Int), .int .i64 (j : Int), .bool true]) ∧ Below w.heap.size w w' := by
  obtain ⟨e1, e2, e3, e4⟩ := place_mod (q := p.q) hM hs hj
  have hsm : j * size ≤ 1000000 := by
    have : j * size ≤ M * size := Nat.mul_le_mul_right _ (Nat.le_of_lt hj)
    have := Nat.div_mul_le_self 960 size
    rw [← hM] at this
    omega
  have hPk : ∀ h : P1.length < P.length, P[P1.length] = p := fun h => by subst hP; simp
  have hlt : P1.length < P.length := by rw [hP]; simp
  have hi : PlaceOf P ((1024 * p.q : Nat) : Int) P1.length := ⟨Nat.le_of_lt hlt, fun a ha h2 => by
    have := h.rise.at ha hlt h2
    rw [hPk] at this
    omega, fun a ha h2 => by
    by_cases e : a = P1.length
    · subst e; rw [hPk]; exact Int.le_refl _
    · have := h.rise.at hlt ha (by omega)
      rw [hPk] at this
      omega⟩
  subst hk
  exact spot_any h hl hs hs2 (1024 * p.q + 64 + j * size) X hX (by omega) P1.length true (by rw [e1]; exact hi) ⟨fun _ => ⟨hlt, by rw [hPk, e1]⟩, fun _ => rfl⟩ P1.length j true (.inl ⟨rfl, rfl, hlt, by rw [hPk, e1], by rw [e2]; omega, by rw [e2]; exact e3, by rw [e2, e4], hj, by rw [hPk]; exact hb⟩)
theorem wf_i64_lt {x : Int} (h : (Lit.int .i64 x).wf = true) : x < 9223372036854775808 := by
  simp [Lit.wf, IntKind.min, IntKind.max, IntKind.signed, IntKind.bits] at h
  omega
/-- none is found -/
theorem spot_no (h : SGx W K w c b size M top gm gw mu n l A cap P) (hl : P.length ≤ 1048576) (hs : 0 < size) (hs2 : size ≤ 512) (X : Int) (hX : (Lit.int .i64 X).wf = true) (hno : X ∉ usedC M size P) :
    Calls Tryz.prog 84 #[.pointer (some ⟨c, 0, none⟩), .int .i64 X] w fun e w' => e = .returned (.tuple #[.int .i64 0, .int .i64 0, .bool false]) ∧ Below w.heap.size w w' := by
  by_cases hn : X < 0
  · exact (spot_neg X hn c w).mono fun e w' ⟨he, hw⟩ => ⟨he, by rw [hw]; exact Below.refl _ _⟩
  obtain ⟨N, rfl⟩ : ∃ N : Nat, X = (N : Int) := ⟨X.toNat, by omega⟩
  obtain ⟨i, ok, hi, hok⟩ := h.rise.place (N / 1024)
  have hN : N < 9223372036854775808 := by
    have h3 := wf_i64_lt hX
    omega
  refine spot_any h hl hs hs2 N _ rfl hN i ok hi hok 0 0 false (.inr ⟨rfl, rfl, rfl, fun hil hq h64 hm ⟨h1, h2⟩ => hno (mem_usedC.2 ⟨P[i], List.getElem_mem hil, (N % 1024 - 64) / size, h1, h2, ?_⟩)⟩)
  have := Nat.div_add_mod (N % 1024 - 64) size
  rw [hm, Nat.add_zero, Nat.mul_comm] at this
  rw [this, hq]
  omega
end Go.Proofs.YtflkoabgkgegjaaGreatDoor
/- Has. Condition: the cache's state. -/
namespace Go.Proofs.YtflkoabgkgegjaaGreatDoor
open Go.RowKit Go.Maps
variable {W w w' : World} {K : List (Nat × Obj)} {c b size M top : Nat} {gm gw : Nat → Nat} {mu n : Nat} {l : List Tl} {A : Option Addr} {cap : Nat} {P : List Pg}

theorem spot_yes2 (h : SGx W K w c b size M top gm gw mu n l A cap P) (hl : P.length ≤ 1048576) (hs : 0 < size) (hs2 : size ≤ 512) (hM : M = 960 / size) (hq : ∀ x ∈ P, x.q < 1048576) (X : Int) (hX : X ∈ usedC M size P) :
    ∃ k j : Nat, Calls Tryz.prog 84 #[.pointer (some ⟨c, 0, none⟩), .int .i64 X] w fun e w' => e = .returned (.tuple #[.int .i64 (k : Int), .int .i64 (j : Int), .bool true]) ∧ Below w.heap.size w w' := by
  obtain ⟨p, hp, j, hj, hb, hx⟩ := mem_usedC.1 hX
  obtain ⟨P1, P2, hP⟩ := List.append_of_mem hp
  exact ⟨_, j, spot_yes h hl hs hs2 hM P1 P2 p hP (hq p hp) j hj hb X hx _ rfl⟩
set_option maxRecDepth 100000 in
theorem has_yes (h : SGx W K w c b size M top gm gw mu n l A cap P) (hl : P.length ≤ 1048576) (hs : 0 < size) (hs2 : size ≤ 512) (hM : M = 960 / size) (hq : ∀ x ∈ P, x.q < 1048576) (X : Int) (hX : X ∈ usedC M size P) :
    Calls Tryz.prog 64 #[.pointer (some ⟨c, 0, none⟩), .int .i64 X] w fun e w' => e = .returned (.bool true) ∧ Below w.heap.size w w' := by
  obtain ⟨k, j, hc⟩ := spot_yes2 h hl hs hs2 hM hq X hX
  have HC := Lib.hid hc
  clear hc h hX hq hM hs hs2 hl
  go_enter Tryz.func64, Tryz.ntmps64
  go_wp2_with fail
  refine HC.out.mono ?_
  rintro e w2 ⟨rfl, h2⟩
  go_wp2
  go_ret
  exact ⟨rfl, h2⟩
set_option maxRecDepth 100000 in
theorem has_no (h : SGx W K w c b size M top gm gw mu n l A cap P) (hl : P.length ≤ 1048576) (hs : 0 < size) (hs2 : size ≤ 512) (X : Int) (hX : (Lit.int .i64 X).wf = true) (hno : X ∉ usedC M size P) :
    Calls Tryz.prog 64 #[.pointer (some ⟨c, 0, none⟩), .int .i64 X] w fun e w' => e = .returned (.bool false) ∧ Below w.heap.size w w' := by
  have hc := spot_no h hl hs hs2 X hX hno
  have HC := Lib.hid hc
  clear hc h hX hno hs hs2 hl
  go_enter Tryz.func64, Tryz.ntmps64
  go_wp2_with fail
  refine HC.out.mono ?_
  rintro e w2 ⟨rfl, h2⟩
  go_wp2
  go_ret
  exact ⟨rfl, h2⟩
end Go.Proofs.YtflkoabgkgegjaaGreatDoor
