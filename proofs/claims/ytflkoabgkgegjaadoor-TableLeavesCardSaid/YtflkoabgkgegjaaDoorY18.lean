/- Used: where used places begin. Condition: the cache's state. And what follows from it. -/
import Derived.RangeFuncBox
import Derived.Maps.AppendAt
import Derived.Test.YtflkoabgkgegjaaDoorY17
/- Used: where used places begin. Condition: the cache's state. -/
namespace Go.Proofs.YtflkoabgkgegjaaDoor
open Go.RowKit Go.Maps
attribute [local go_sem] Oper.semAt_some
variable {W w w' : World} {K : List (Nat × Obj)} {c b size M top : Nat} {gm gw : Nat → Nat} {mu n : Nat} {l : List Tl} {A : Option Addr} {cap : Nat} {P : List Pg}

theorem usedC_length (M size : Nat) : ∀ P : List Pg, (usedC M size P).length ≤ P.length * M
  | [] => by simp [usedC]
  | p :: P => by
    have h1 := usedC_length M size P
    have h2 := usedB_length size p M
    simp only [usedC, List.flatMap_cons, List.length_append, List.length_cons] at h1 ⊢
    rw [Nat.add_mul]
    omega
theorem kpU_t {n₀ : Nat} {X Y Z : World} (h : KpU n₀ X Y) (k : KpU n₀ Y Z) : KpU n₀ X Z := ⟨h.1.trans k.1, fun g cs t hg h1 h2 => k.2 g cs t (h.2 g cs t hg h1 h2) h1 h2⟩
theorem kpU_b {n₀ : Nat} {w : World} (hn : n₀ ≤ w.heap.size) (W : World) (l : Nat) (o o' : Obj) (hl : w.heap.size ≤ l) (h : W.heap[l]? = some o) (hc : o.isCells = false) (hw : o.isWalk = false) : KpU n₀ W (W.putObj l o') :=
  ⟨belowK_b hn W l o o' hl h hc hw, fun g cs t hg _ _ => by
    rw [World.putObj_heap_other (fun e => by subst e; rw [h] at hg; injection hg with hg; subst hg; cases hc)]
    exact hg⟩
theorem places_any (c : Nat) (w : World) : Calls Tryd.prog 62 #[.pointer (some ⟨c, 0, none⟩)] w fun e w' => e = .returned (.func (.func 75) #[] #[.pointer (some ⟨w.heap.size, 0, none⟩)]) ∧ w' = w.alloc (.cells #[.pointer (some ⟨c, 0, none⟩)] 59) := by
  go_enter Tryd.func62, Tryd.ntmps62
  go_wp2
  go_ret
  exact ⟨rfl, rfl⟩
theorem places_stops (nn : Nat) (hnn : 1 ≤ nn) (h : SGx W K w c b size M top gm gw mu n l A cap P) (hT : TabZ W) (hl : P.length ≤ 1048576) (hs : size ≤ 512) (hM : M ≤ 60) (hq : ∀ x ∈ P, x.q < 1048576) (Bn : Nat) (w2 : World) (hw : Below w.heap.size w w2) (hBn : w2.heap[Bn]? = some (.cells #[.pointer (some ⟨c, 0, none⟩)] 59 (0, 0))) :
    SeqStopsK Fence.wide nn Tryd.prog 75 #[.pointer (some ⟨Bn, 0, none⟩)] (fun x : Int => #[Value.int .i64 x]) (KpU w.heap.size) (fun ys => ys = usedC M size P) (fun _ => True) (usedC M size P).length w2 := fun l0 J Jx X hX hJ _ hY h0 =>
  places1_in nn hnn h hT hl hs hM hq l0 Bn J Jx X (hw.trans (hX.mono hw.size)) hJ hY ((hX.block Bn (blt hBn)).trans hBn) h0
theorem ownsRow_blockv {w : World} {base : Nat} {e : TypeId} {size n : Nat} {v : Value} {xs : List Value} (h : w.ownsRow base e size v n xs) {g : Nat} (hg : some g = v.ownBlock) : ∃ cs, w.heap[g]? = some (.cells cs e (0, 0)) := by
  rcases h.2 with ⟨hv, _⟩ | ⟨g2, cap2, cur, hv, _, hh, _⟩
  · subst hv
    cases hg
  · subst hv
    injection hg with hg
    subst hg
    exact ⟨cur, hh⟩
theorem kpU_app {X w1 : World} {n₀ B k : Nat} {v v' : Value} {xs : List Value} {tmp : Obj} (hv : X.heap[B]? = some (.cells #[v] 38 (0, 0))) (hrow : X.ownsRow n₀ 3 1 v k xs) (hg : (X.alloc tmp).grownBy w1 v.ownBlock) (hb : Below n₀ X (w1.setCell ⟨B, 0, none⟩ v')) : KpU n₀ X (w1.setCell ⟨B, 0, none⟩ v') :=
  ⟨hb, fun g cs t hc h1 h2 => by
    have hlt := blt hc
    have e1 : (X.alloc tmp).heap[g]? = some (.cells cs t (0, 0)) := (((Below.refl _ X).alloc (Nat.le_refl _) tmp).block g hlt).trans hc
    have e2 : w1.heap[g]? = some (.cells cs t (0, 0)) := (hg.block g (blt e1) (fun e => by
      obtain ⟨ds, hd⟩ := ownsRow_blockv hrow e
      rw [hc] at hd
      injection hd with hd
      injection hd with _ h3
      exact h1 h3)).trans e1
    have bc : w1.grownBy (w1.setCell ⟨B, 0, none⟩ v') (some B) := gb_set (World.grownBy.refl _ _) _ _
    refine (bc.block g (blt e2) (fun e => ?_)).trans e2
    injection e with e
    subst e
    rw [hc] at hv
    injection hv with hv
    injection hv with _ h3
    exact h2 h3⟩
set_option maxRecDepth 100000 in
set_option maxHeartbeats 4000000 in
theorem used_any (h : SGx W K w c b size M top gm gw mu n l A cap P) (hT : TabZ W) (hl : P.length ≤ 1048576) (hs : size ≤ 512) (hM : M ≤ 60) (hq : ∀ x ∈ P, x.q < 1048576) :
    Calls Tryd.prog 44 #[.pointer (some ⟨c, 0, none⟩)] w fun e w' => ∃ A' k', e = .returned (.slice A' (usedC M size P).length k') ∧ w'.ownsRow w.heap.size 3 1 (.slice A' (usedC M size P).length k') (usedC M size P).length (i64s (usedC M size P)) ∧ Below w.heap.size w w' := by
  obtain ⟨i0, hi, hz0, hz1, hz2⟩ := info_parts info_int
  have hlen : (usedC M size P).length ≤ 62914560 := by
    have h1 := usedC_length M size P
    have h2 : P.length * M ≤ 1048576 * 60 := Nat.mul_le_mul hl hM
    omega
  refine (callsIn_wide (n := 3)).1 ?_
  refine callsIn_of_wp_marks Tryd.func44 rfl trivial ?_ rfl
  simp only [Tryd.ntmps44, List.size_toArray, List.length_cons, List.length_nil, Nat.reduceAdd, Nat.reduceSub, Array.replicate_succ, Array.replicate_zero, List.push_toArray, List.append_toArray, List.nil_append, List.cons_append]
  gi_wp2_with (refine ⟨trivial, ?_⟩; refine (callsIn_wide.2 (places_any c _)).mono ?_; rintro e w' ⟨rfl, rfl⟩)
  have bO := Boxed.new w 38 (.slice none 0 0)
  have bN := Boxed.new (w.alloc (.cells #[.slice none 0 0] 38)) 59 (.pointer (some ⟨c, 0, none⟩))
  rw [World.size_alloc] at bN
  have hB0 : Below w.heap.size w ((w.alloc (.cells #[.slice none 0 0] 38)).alloc (.cells #[.pointer (some ⟨c, 0, none⟩)] 59)) := ((Below.refl _ w).alloc (Nat.le_refl _) _).alloc (by simp) _
  refine wpIn_rangeFunc_ownG rfl (by omega) (gf := 75) (lb := #[.pointer (some ⟨w.heap.size + 1, 0, none⟩)]) rfl trivial (enters_of Tryd.func75 (by kernel_rfl) rfl)
    (places_stops (3 - 1) (by omega) h hT hl hs hM hq (w.heap.size + 1) _ hB0 bN) kpU_t (kpU_b (by simp; omega)) (Below.refl _ _) (fun _ => rfl)
    (fun pre X => (∃ v, Boxed X w.heap.size 38 v ∧ X.ownsRow w.heap.size 3 1 v pre.length (pre.map (Value.int .i64)) ∧ True) ∧ Below w.heap.size w X)
    (fun _ _ _ => False)
    (OwnFrom.and (Own.from (holdsRow_own w.heap.size w.heap.size 38 3 1 (fun (pre : List Int) => pre.length) (fun (pre : List Int) => pre.map (Value.int .i64)) (fun _ _ => True)) _) (ownFrom_below (Nat.le_refl _) (by simp; omega)))
    (fun _ _ _ _ _ hs _ _ => hs)
    ⟨⟨_, bO.alloc _, World.ownsRow_nil _ _ _ _, trivial⟩, hB0⟩
    (fun x => { tmps := #[.pointer (some ⟨c, 0, none⟩), undef, .slice none 0 0, .pointer (some ⟨w.heap.size, 0, none⟩), .int .i64 x, .pointer (some ⟨c, 0, none⟩), .func (.func 75) #[] #[.pointer (some ⟨w.heap.size + 1, 0, none⟩)], .int .i64 x, undef, undef, undef, undef, undef], defers := [] }) ?assign ?body ?done ?stop
  case assign =>
    intro l x W K hK
    gi_wp2
    exact hK
  case body =>
    rintro l0 pre x X ⟨⟨v, hv, hrow, _⟩, hB⟩ hlt
    have hc := hv.cell
    gi_wp2_with (gi_at_builtin; refine wpListIn_append_own _ rfl _ _ 38 rfl w.heap.size 3 i0 (.int .i64 0) 1 8 Tryd.underlying38 hi hz0 hz1 hz2 rfl (by decide) _ _ _ rfl (hrow.alloc _) ⟨X.heap.size, 0, none⟩ 1 1 [.int .i64 x] rfl rfl (cell_one_new _ _ _) (by simp [Value.oneCell']) (by simp only [maxLen]; omega) (by omega) (by have := hB.size; simp; omega) ?_; intro v' w1 hown' hgrow _; obtain ⟨g', cap', rfl⟩ := ownsRow_succ hown'; obtain ⟨hv1, hv2, hr2, hk2, hb2⟩ := hv.appended (by decide) hrow hB.size (Nat.le_refl _) hown' hgrow; have hkp := kpU_app hv hrow hgrow hb2; have hc1 := hv1.cell; have hf1 := hv1.frozen)
    exact ⟨hk2.from _, hkp, ⟨_, hv2, by simpa using hr2, trivial⟩, hB.trans hb2⟩
  case done =>
    rintro D ys X hD rfl ⟨⟨v, hv, hrow, _⟩, hB⟩ hK
    have hc := hv.cell
    gi_wp2
    refine ⟨by simp, .inl ⟨_, _, rfl, run_takeDeferred hK, ?_⟩⟩
    have hr := ownsRow_putObj hrow (.deferred none) hK rfl
    have hb := hB.trans (belowK_b (w := w) (Nat.le_refl _) X D _ (.deferred none) (by simp at hD; omega) hK rfl rfl)
    rcases hr.2 with ⟨rfl, h0⟩ | ⟨g, cp, cur, rfl, _⟩
    · have h00 : (usedC M size P).length = 0 := h0
      exact ⟨_, results_tmp rfl _ _ _, none, 0, by rw [h00]; rfl, by rw [h00] at hr ⊢; exact hr, hb⟩
    · exact ⟨_, results_tmp rfl _ _ _, _, _, rfl, hr, hb⟩
  case stop =>
    rintro D c pre W _ _ h _
    exact h.elim
end Go.Proofs.YtflkoabgkgegjaaDoor
/- spot, Has. Condition: the cache's state. -/
namespace Go.Proofs.YtflkoabgkgegjaaDoor
open Go.RowKit Go.Maps
variable {W w w' : World} {K : List (Nat × Obj)} {c b size M top : Nat} {gm gw : Nat → Nat} {mu n : Nat} {l : List Tl} {A : Option Addr} {cap : Nat} {P : List Pg}

theorem RisesQ.place {P : List Pg} (h : RisesQ P) (x : Nat) : ∃ i ok, PlaceOf P ((1024 * x : Nat) : Int) i ∧ (ok = true ↔ ∃ h : i < P.length, ((1024 * P[i].q : Nat) : Int) = ((1024 * x : Nat) : Int)) := by
  induction P with
  | nil => exact ⟨0, false, ⟨Nat.le_refl _, fun k hk => absurd hk (Nat.not_lt_zero _), fun k hk => absurd hk (Nat.not_lt_zero _)⟩, fun h => (by cases h), fun ⟨h, _⟩ => absurd h (Nat.not_lt_zero _)⟩
  | cons p P ih =>
    obtain ⟨h1, h2⟩ := List.pairwise_cons.1 h
    by_cases q : p.q < x
    · obtain ⟨i, ok, hi, hok⟩ := ih h2
      refine ⟨i + 1, ok, ⟨Nat.succ_le_succ hi.le, fun k hk hk2 => ?_, fun k hk hk2 => ?_⟩, hok.trans ⟨fun ⟨h, e⟩ => ⟨Nat.succ_lt_succ h, e⟩, fun ⟨h, e⟩ => ⟨Nat.lt_of_succ_lt_succ h, e⟩⟩⟩
      · cases k with
        | zero => simp only [List.getElem_cons_zero]; omega
        | succ k => exact hi.lo k (Nat.lt_of_succ_lt_succ hk) (by omega)
      · cases k with
        | zero => omega
        | succ k => exact hi.hi k (Nat.lt_of_succ_lt_succ hk) (by omega)
    · refine ⟨0, decide (p.q = x), ⟨Nat.zero_le _, fun k hk hk2 => absurd hk2 (Nat.not_lt_zero _), fun k hk _ => ?_⟩, ?_⟩
      · cases k with
        | zero => simp only [List.getElem_cons_zero]; omega
        | succ k =>
          have := h1 _ (List.getElem_mem (Nat.lt_of_succ_lt_succ hk))
          simp only [List.getElem_cons_succ]
          omega
      · rw [decide_eq_true_iff]
        constructor
        · rintro rfl
          exact ⟨Nat.zero_lt_succ _, rfl⟩
        · rintro ⟨_, e⟩
          simp only [List.getElem_cons_zero] at e
          omega
set_option maxRecDepth 100000 in
theorem spot_neg (x : Int) (hx : x < 0) (c : Nat) (w : World) : Calls Tryd.prog 72 #[.pointer (some ⟨c, 0, none⟩), .int .i64 x] w fun e w' => e = .returned (.tuple #[.int .i64 0, .int .i64 0, .bool false]) ∧ w' = w := by
  have t1 : decide (x < 0) = true := decide_eq_true hx
  clear hx
  go_enter Tryd.func72, Tryd.ntmps72
  go_wp2
  go_ret3
  exact ⟨rfl, rfl⟩
set_option maxRecDepth 100000 in
set_option maxHeartbeats 1600000 in
theorem spot_any (h : SGx W K w c b size M top gm gw mu n l A cap P) (hl : P.length ≤ 1048576) (hs : 0 < size) (hs2 : size ≤ 512) (N : Nat) (X : Int) (hX : X = (N : Int)) (hN : N < 9223372036854775808) (i : Nat) (ok : Bool) (hi : PlaceOf P ((1024 * (N / 1024) : Nat) : Int) i) (hok : ok = true ↔ ∃ h : i < P.length, ((1024 * P[i].q : Nat) : Int) = ((1024 * (N / 1024) : Nat) : Int)) (r1 r2 : Nat) (r : Bool)
    (hr : (r = true ∧ r1 = i ∧ (∃ h : i < P.length, P[i].q = N / 1024 ∧ 64 ≤ N % 1024 ∧ (N % 1024 - 64) % size = 0 ∧ r2 = (N % 1024 - 64) / size ∧ r2 < M ∧ bitW P[i].ws r2 = true)) ∨ (r = false ∧ r1 = 0 ∧ r2 = 0 ∧ ∀ h : i < P.length, P[i].q = N / 1024 → 64 ≤ N % 1024 → (N % 1024 - 64) % size = 0 → ¬ ((N % 1024 - 64) / size < M ∧ bitW P[i].ws ((N % 1024 - 64) / size) = true))) :
    Calls Tryd.prog 72 #[.pointer (some ⟨c, 0, none⟩), .int .i64 X] w fun e w' => e = .returned (.tuple #[.int .i64 (r1 : Int), .int .i64 (r2 : Int), .bool r]) ∧ Below w.heap.size w w' := by
  have H := Lib.hid h
  have HI := Lib.hid hi
  have HOK := Lib.hid hok
  have HR := Lib.hid hr
  have HS : Hid (P.length ≤ 1048576 ∧ 0 < size ∧ size ≤ 512 ∧ N < 9223372036854775808) := Lib.hid ⟨hl, hs, hs2, hN⟩
  have HX := Lib.hid hX
  have c2 := h.c2
  obtain ⟨m, hm⟩ : ∃ m, P.length = m := ⟨_, rfl⟩
  rw [hm] at c2
  have HM := Lib.hid hm
  have t1 : decide (X < 0) = false := decide_eq_false (by omega)
  obtain ⟨Q, hQ⟩ : ∃ Q : Int, Q = ((1024 * (N / 1024) : Nat) : Int) := ⟨_, rfl⟩
  obtain ⟨D, hD⟩ : ∃ D : Int, D = ((N / 1024 : Nat) : Int) := ⟨_, rfl⟩
  have z1 : wrap64 (X.tdiv 1024) = D := by
    rw [hX, Int.tdiv_eq_ediv_of_nonneg (by omega), wrap64]
    omega
  have z2 : IntKind.i64.wrap (D * 1024) = Q := by rw [IntKind.wrap_i64]; omega
  have HQ := Lib.hid hQ
  clear h hi hok hr hl hs hs2 hN hX hm hQ hD
  go_enter Tryd.func72, Tryd.ntmps72
  go_wp2_with fail
  refine (find_any P H.out.rise c b size m HM.out (by have := HS.out; have := HM.out; omega) A cap Q i (by rw [HQ.out]; exact HI.out) ok (by rw [HQ.out]; exact HOK.out) w H.out.sl c2).mono ?_
  rintro e w2 ⟨rfl, b2⟩
  have h2 := H.out.below b2
  have HB2 := Lib.hid b2
  have H2 := Lib.hid h2
  obtain ⟨E, hE⟩ : ∃ E : Int, E = ((N % 1024 : Nat) : Int) := ⟨_, rfl⟩
  obtain ⟨I, hI⟩ : ∃ I : Int, I = E - 64 := ⟨_, rfl⟩
  have z3 : X.tmod 1024 = E := by rw [HX.out, Int.tmod_eq_emod_of_nonneg (by omega), hE]; rfl
  have z4 : IntKind.i64.wrap (E - 64) = I := by rw [IntKind.wrap_i64]; omega
  have HI64 : Hid (I = ((N % 1024 : Nat) : Int) - 64) := Lib.hid (by omega)
  clear b2 h2 hE hI
  by_cases qo : ok = false
  · have e : r = false ∧ r1 = 0 ∧ r2 = 0 := by
      rcases HR.out with ⟨_, _, h, h3, _⟩ | ⟨h1, h2, h3, _⟩
      · have := HOK.out.2 ⟨h, by rw [h3]⟩
        rw [qo] at this; cases this
      · exact ⟨h1, h2, h3⟩
    obtain ⟨rfl, rfl, rfl⟩ := e
    clear HOK HR
    subst qo
    go_wp2_with fail
    go_quiet (fail)
    go_wp2
    go_ret3
    exact ⟨rfl, below_drewN HB2.out _⟩
  have hok : ok = true := by simpa using qo
  obtain ⟨hil, hiq0⟩ := HOK.out.1 hok
  have hiq : P[i].q = N / 1024 := by omega
  by_cases qi : I < 0
  · have e : r = false ∧ r1 = 0 ∧ r2 = 0 := by
      rcases HR.out with ⟨_, _, h, h3, h4, _⟩ | ⟨h1, h2, h3, _⟩
      · have := HI64.out; omega
      · exact ⟨h1, h2, h3⟩
    obtain ⟨rfl, rfl, rfl⟩ := e
    have q1 : decide (I < 0) = true := decide_eq_true qi
    clear HOK HR qo hil hiq0 hiq qi
    subst hok
    go_wp2_with fail
    go_quiet (fail)
    go_wp2
    go_ret3
    exact ⟨rfl, below_drewN HB2.out _⟩
  have q1 : decide (I < 0) = false := decide_eq_false qi
  obtain ⟨f, hf⟩ : ∃ f, N % 1024 - 64 = f := ⟨_, rfl⟩
  have hI2 : I = (f : Int) := by have := HI64.out; omega
  obtain ⟨s, hs⟩ : ∃ s : Int, (size : Int) = s := ⟨_, rfl⟩
  have c1 := H2.out.c1
  rw [hs] at c1
  have n0 : ¬ (s = 0) := by have := HS.out; omega
  have zm : I.tmod s = ((f % size : Nat) : Int) := by rw [hI2, ← hs, Int.tmod_eq_emod_of_nonneg (by omega)]; rfl
  by_cases qm : f % size = 0
  · have q2 : (I.tmod s != 0) = false := by rw [zm, qm]; rfl
    obtain ⟨j, hj⟩ : ∃ j, f / size = j := ⟨_, rfl⟩
    obtain ⟨J, hJ⟩ : ∃ J : Int, (j : Int) = J := ⟨_, rfl⟩
    have zd : wrap64 (I.tdiv s) = J := by
      have e : I.tdiv s = ((f / size : Nat) : Int) := by rw [hI2, ← hs, Int.tdiv_eq_ediv_of_nonneg (by omega)]; rfl
      have := Nat.div_le_self f size
      have := HS.out
      rw [e, wrap64]; omega
    obtain ⟨g, off, hA, hg, d0, d1⟩ := H2.out.sl.pg hil
    have c22 := H2.out.c2
    rw [HM.out] at c22
    have MK := Lib.hid (H2.out.maps _ (List.getElem_mem hil))
    obtain ⟨y, hy⟩ : ∃ y, P[i] = y := ⟨_, rfl⟩
    rw [hy] at d0 d1 MK hiq
    subst hA
    have i0 : (0 : Int) ≤ (i : Int) := by omega
    have i1 : (i : Int) < (m : Int) := by have := HM.out; omega
    have HG : Hid (getB M y.ws J = r) := Lib.hid (by
      unfold getB
      rw [← hJ, Int.toNat_natCast]
      rcases HR.out with ⟨h1, _, h, h3, h4, h5, h6, h7, h8⟩ | ⟨h1, _, _, h3⟩
      · rw [hf, hj] at h6
        subst h6
        rw [hy] at h8
        rw [h1, h8, Bool.and_true]
        exact decide_eq_true ⟨by omega, by omega⟩
      · have := h3 hil (by rw [hy]; exact hiq) (by have := HI64.out; omega) (by rw [hf]; exact qm)
        rw [hf, hj, hy] at this
        rw [h1, Bool.and_eq_false_iff]
        by_cases q : j < M
        · exact .inr (Bool.eq_false_iff.2 fun hb => this ⟨q, hb⟩)
        · exact .inl (decide_eq_false (by omega)))
    cases r with
    | false =>
      have e : r1 = 0 ∧ r2 = 0 := by
        rcases HR.out with ⟨h1, _⟩ | ⟨_, h2, h3, _⟩
        · cases h1
        · exact ⟨h2, h3⟩
      obtain ⟨rfl, rfl⟩ := e
      clear HOK HR qo hil hiq0 hiq qi hI2 hf hs zm qm hj hJ hy hg
      subst hok
      go_wp2_with fail
      go_quiet ((first | (go_at_call 60; exact Calls.quiet_of_same (get_lit _ y.gm y.gw M y.ws J _ HG.out (MK.out.below (below_drewN (Below.refl _ _) _))))))
      go_wp2
      go_ret3
      exact ⟨rfl, below_drewN HB2.out _⟩
    | true =>
      have e : r1 = i ∧ (r2 : Int) = J := by
        rcases HR.out with ⟨_, h1, h, h3, h4, h5, h6, _⟩ | ⟨h1, _⟩
        · rw [hf, hj] at h6
          exact ⟨h1, by rw [h6, hJ]⟩
        · cases h1
      obtain ⟨rfl, e2⟩ := e
      have HE := Lib.hid e2
      clear HOK HR qo hil hiq0 hiq qi hI2 hf hs zm qm hj hJ hy hg e2
      subst hok
      go_wp2_with fail
      go_quiet ((first | (go_at_call 60; exact Calls.quiet_of_same (get_lit _ y.gm y.gw M y.ws J _ HG.out (MK.out.below (below_drewN (Below.refl _ _) _))))))
      go_wp2_with fail
      go_quiet (fail)
      go_wp2
      go_ret3
      exact ⟨by show Ending.returned (.tuple #[.int .i64 (r1 : Int), .int .i64 (wrap64 (I.tdiv s)), .bool true]) = _; rw [zd, HE.out], below_drewN (below_drewN HB2.out _) _⟩
  · have e : r = false ∧ r1 = 0 ∧ r2 = 0 := by
      rcases HR.out with ⟨_, _, h, h3, h4, h5, _⟩ | ⟨h1, h2, h3, _⟩
      · rw [hf] at h5; exact absurd h5 qm
      · exact ⟨h1, h2, h3⟩
    obtain ⟨rfl, rfl, rfl⟩ := e
    have q2 : (I.tmod s != 0) = true := by rw [zm]; simp only [bne_iff_ne, ne_eq]; omega
    clear HOK HR qo hil hiq0 hiq qi hI2 hf hs zm qm
    subst hok
    go_wp2_with fail
    go_quiet (fail)
    go_wp2
    go_ret3
    exact ⟨rfl, below_drewN HB2.out _⟩
/-- is there such a used place? -/
def hasC (M size : Nat) (P : List Pg) (x : Int) : Bool := decide (x ∈ usedC M size P)
theorem mem_usedB {size : Nat} {p : Pg} {f : Nat} {x : Int} : x ∈ usedB size p f ↔ ∃ j, j < f ∧ bitW p.ws j = true ∧ x = ((1024 * p.q + 64 + j * size : Nat) : Int) := by
  unfold usedB
  simp only [List.mem_map, List.mem_filter, List.mem_range]
  constructor
  · rintro ⟨j, ⟨h1, h2⟩, rfl⟩
    exact ⟨j, h1, h2, rfl⟩
  · rintro ⟨j, h1, h2, rfl⟩
    exact ⟨j, ⟨h1, h2⟩, rfl⟩
theorem mem_usedC {M size : Nat} {P : List Pg} {x : Int} : x ∈ usedC M size P ↔ ∃ p ∈ P, ∃ j, j < M ∧ bitW p.ws j = true ∧ x = ((1024 * p.q + 64 + j * size : Nat) : Int) := by
  unfold usedC
  simp only [List.mem_flatMap, mem_usedB]
theorem place_mod {M size q j : Nat} (hM : M = 960 / size) (hs : 0 < size) (hj : j < M) : (1024 * q + 64 + j * size) / 1024 = q ∧ (1024 * q + 64 + j * size) % 1024 = 64 + j * size ∧ (64 + j * size - 64) % size = 0 ∧ (64 + j * size - 64) / size = j := by
  have h1 : (j + 1) * size ≤ 960 := by
    have : (j + 1) * size ≤ M * size := Nat.mul_le_mul_right _ hj
    have := Nat.div_mul_le_self 960 size
    rw [← hM] at this
    omega
  rw [Nat.add_mul, Nat.one_mul] at h1
  have e : 64 + j * size - 64 = j * size := by omega
  rw [e]
  exact ⟨by omega, by omega, Nat.mul_mod_left _ _, Nat.mul_div_cancel _ hs⟩
/-- a used place is found -/
theorem spot_yes (h : SGx W K w c b size M top gm gw mu n l A cap P) (hl : P.length ≤ 1048576) (hs : 0 < size) (hs2 : size ≤ 512) (hM : M = 960 / size) (P1 P2 : List Pg) (p : Pg) (hP : P = P1 ++ p :: P2) (hq : p.q < 1048576) (j : Nat) (hj : j < M) (hb : bitW p.ws j = true) (X : Int) (hX : X = ((1024 * p.q + 64 + j * size : Nat) : Int)) (k : Nat) (hk : k = P1.length) :
    Calls Tryd.prog 72 #[.pointer (some ⟨c, 0, none⟩), .int .i64 X] w fun e w' => e = .returned (.tuple #[.int .i64 (k : Int), .int .i64 (j : Int), .bool true]) ∧ Below w.heap.size w w' := by
  obtain ⟨e1, e2, e3, e4⟩ := place_mod (q := p.q) hM hs hj
  have hsm : j * size ≤ 1000000 := by
    have : j * size ≤ M * size := Nat.mul_le_mul_right _ (Nat.le_of_lt hj)
    have := Nat.div_mul_le_self 960 size
    rw [← hM] at this
    omega
  have hPk : ∀ h : P1.length < P.length, P[P1.length] = p := fun h => by subst hP; simp
  have hlt : P1.length < P.length := by rw [hP]; simp
  have hi : PlaceOf P ((1024 * p.q : Nat) : Int) P1.length := ⟨Nat.le_of_lt hlt, fun a ha h2 => by
    have := h.rise.at ha hlt h2
    rw [hPk] at this
    omega, fun a ha h2 => by
    by_cases e : a = P1.length
    · subst e; rw [hPk]; exact Int.le_refl _
    · have := h.rise.at hlt ha (by omega)
      rw [hPk] at this
      omega⟩
  subst hk
  exact spot_any h hl hs hs2 (1024 * p.q + 64 + j * size) X hX (by omega) P1.length true (by rw [e1]; exact hi) ⟨fun _ => ⟨hlt, by rw [hPk, e1]⟩, fun _ => rfl⟩ P1.length j true (.inl ⟨rfl, rfl, hlt, by rw [hPk, e1], by rw [e2]; omega, by rw [e2]; exact e3, by rw [e2, e4], hj, by rw [hPk]; exact hb⟩)
theorem wf_i64_lt {x : Int} (h : (Lit.int .i64 x).wf = true) : x < 9223372036854775808 := by
  simp [Lit.wf, IntKind.min, IntKind.max, IntKind.signed, IntKind.bits] at h
  omega
/-- none is found -/
theorem spot_no (h : SGx W K w c b size M top gm gw mu n l A cap P) (hl : P.length ≤ 1048576) (hs : 0 < size) (hs2 : size ≤ 512) (X : Int) (hX : (Lit.int .i64 X).wf = true) (hno : X ∉ usedC M size P) :
    Calls Tryd.prog 72 #[.pointer (some ⟨c, 0, none⟩), .int .i64 X] w fun e w' => e = .returned (.tuple #[.int .i64 0, .int .i64 0, .bool false]) ∧ Below w.heap.size w w' := by
  by_cases hn : X < 0
  · exact (spot_neg X hn c w).mono fun e w' ⟨he, hw⟩ => ⟨he, by rw [hw]; exact Below.refl _ _⟩
  obtain ⟨N, rfl⟩ : ∃ N : Nat, X = (N : Int) := ⟨X.toNat, by omega⟩
  obtain ⟨i, ok, hi, hok⟩ := h.rise.place (N / 1024)
  have hN : N < 9223372036854775808 := by
    have h3 := wf_i64_lt hX
    omega
  refine spot_any h hl hs hs2 N _ rfl hN i ok hi hok 0 0 false (.inr ⟨rfl, rfl, rfl, fun hil hq h64 hm ⟨h1, h2⟩ => hno (mem_usedC.2 ⟨P[i], List.getElem_mem hil, (N % 1024 - 64) / size, h1, h2, ?_⟩)⟩)
  have := Nat.div_add_mod (N % 1024 - 64) size
  rw [hm, Nat.add_zero, Nat.mul_comm] at this
  rw [this, hq]
  omega
end Go.Proofs.YtflkoabgkgegjaaDoor
