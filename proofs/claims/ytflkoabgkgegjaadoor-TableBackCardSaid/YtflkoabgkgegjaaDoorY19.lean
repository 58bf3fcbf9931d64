/- Used: where used places begin. Condition: the cache's state. -/
import Derived.RangeFuncBox
import Derived.Maps.AppendAt
import Derived.Test.YtflkoabgkgegjaaDoorY18
/- Used: where used places begin. Condition: the cache's state. -/
namespace Go.Proofs.YtflkoabgkgegjaaDoor
open Go.RowKit Go.Maps
attribute [local go_sem] Oper.semAt_some
variable {W w w' : World} {K : List (Nat × Obj)} {c b size M top : Nat} {gm gw : Nat → Nat} {mu n : Nat} {l : List Tl} {A : Option Addr} {cap : Nat} {P : List Pg}

theorem usedC_length (M size : Nat) : ∀ P : List Pg, (usedC M size P).length ≤ P.length * M
  | [] => by simp [usedC]
  | p :: P => by
    have h1 := usedC_length M size P
    have h2 := usedB_length size p M
    simp only [usedC, List.flatMap_cons, List.length_append, List.length_cons] at h1 ⊢
    rw [Nat.add_mul]
    omega
theorem kpU_t {n₀ : Nat} {X Y Z : World} (h : KpU n₀ X Y) (k : KpU n₀ Y Z) : KpU n₀ X Z := ⟨h.1.trans k.1, fun g cs t hg h1 h2 => k.2 g cs t (h.2 g cs t hg h1 h2) h1 h2⟩
theorem kpU_b {n₀ : Nat} {w : World} (hn : n₀ ≤ w.heap.size) (W : World) (l : Nat) (o o' : Obj) (hl : w.heap.size ≤ l) (h : W.heap[l]? = some o) (hc : o.isCells = false) (hw : o.isWalk = false) : KpU n₀ W (W.putObj l o') :=
  ⟨belowK_b hn W l o o' hl h hc hw, fun g cs t hg _ _ => by
    rw [World.putObj_heap_other (fun e => by subst e; rw [h] at hg; injection hg with hg; subst hg; cases hc)]
    exact hg⟩
theorem places_any (c : Nat) (w : World) : Calls Tryd.prog 62 #[.pointer (some ⟨c, 0, none⟩)] w fun e w' => e = .returned (.func (.func 75) #[] #[.pointer (some ⟨w.heap.size, 0, none⟩)]) ∧ w' = w.alloc (.cells #[.pointer (some ⟨c, 0, none⟩)] 59) := by
  go_enter Tryd.func62, Tryd.ntmps62
  go_wp2
  go_ret
  exact ⟨rfl, rfl⟩
theorem places_stops (nn : Nat) (hnn : 1 ≤ nn) (h : SGx W K w c b size M top gm gw mu n l A cap P) (hT : TabZ W) (hl : P.length ≤ 1048576) (hs : size ≤ 512) (hM : M ≤ 60) (hq : ∀ x ∈ P, x.q < 1048576) (Bn : Nat) (w2 : World) (hw : Below w.heap.size w w2) (hBn : w2.heap[Bn]? = some (.cells #[.pointer (some ⟨c, 0, none⟩)] 59 (0, 0))) :
    SeqStopsK Fence.wide nn Tryd.prog 75 #[.pointer (some ⟨Bn, 0, none⟩)] (fun x : Int => #[Value.int .i64 x]) (KpU w.heap.size) (fun ys => ys = usedC M size P) (fun _ => True) (usedC M size P).length w2 := fun l0 J Jx X hX hJ _ hY h0 =>
  places1_in nn hnn h hT hl hs hM hq l0 Bn J Jx X (hw.trans (hX.mono hw.size)) hJ hY ((hX.block Bn (blt hBn)).trans hBn) h0
theorem ownsRow_blockv {w : World} {base : Nat} {e : TypeId} {size n : Nat} {v : Value} {xs : List Value} (h : w.ownsRow base e size v n xs) {g : Nat} (hg : some g = v.ownBlock) : ∃ cs, w.heap[g]? = some (.cells cs e (0, 0)) := by
  rcases h.2 with ⟨hv, _⟩ | ⟨g2, cap2, cur, hv, _, hh, _⟩
  · subst hv
    cases hg
  · subst hv
    injection hg with hg
    subst hg
    exact ⟨cur, hh⟩
theorem kpU_app {X w1 : World} {n₀ B k : Nat} {v v' : Value} {xs : List Value} {tmp : Obj} (hv : X.heap[B]? = some (.cells #[v] 38 (0, 0))) (hrow : X.ownsRow n₀ 3 1 v k xs) (hg : (X.alloc tmp).grownBy w1 v.ownBlock) (hb : Below n₀ X (w1.setCell ⟨B, 0, none⟩ v')) : KpU n₀ X (w1.setCell ⟨B, 0, none⟩ v') :=
  ⟨hb, fun g cs t hc h1 h2 => by
    have hlt := blt hc
    have e1 : (X.alloc tmp).heap[g]? = some (.cells cs t (0, 0)) := (((Below.refl _ X).alloc (Nat.le_refl _) tmp).block g hlt).trans hc
    have e2 : w1.heap[g]? = some (.cells cs t (0, 0)) := (hg.block g (blt e1) (fun e => by
      obtain ⟨ds, hd⟩ := ownsRow_blockv hrow e
      rw [hc] at hd
      injection hd with hd
      injection hd with _ h3
      exact h1 h3)).trans e1
    have bc : w1.grownBy (w1.setCell ⟨B, 0, none⟩ v') (some B) := gb_set (World.grownBy.refl _ _) _ _
    refine (bc.block g (blt e2) (fun e => ?_)).trans e2
    injection e with e
    subst e
    rw [hc] at hv
    injection hv with hv
    injection hv with _ h3
    exact h2 h3⟩
set_option maxRecDepth 100000 in
set_option maxHeartbeats 4000000 in
theorem used_any (h : SGx W K w c b size M top gm gw mu n l A cap P) (hT : TabZ W) (hl : P.length ≤ 1048576) (hs : size ≤ 512) (hM : M ≤ 60) (hq : ∀ x ∈ P, x.q < 1048576) :
    Calls Tryd.prog 44 #[.pointer (some ⟨c, 0, none⟩)] w fun e w' => ∃ A' k', e = .returned (.slice A' (usedC M size P).length k') ∧ w'.ownsRow w.heap.size 3 1 (.slice A' (usedC M size P).length k') (usedC M size P).length (i64s (usedC M size P)) ∧ Below w.heap.size w w' := by
  obtain ⟨i0, hi, hz0, hz1, hz2⟩ := info_parts info_int
  have hlen : (usedC M size P).length ≤ 62914560 := by
    have h1 := usedC_length M size P
    have h2 : P.length * M ≤ 1048576 * 60 := Nat.mul_le_mul hl hM
    omega
  refine (callsIn_wide (n := 3)).1 ?_
  refine callsIn_of_wp_marks Tryd.func44 rfl trivial ?_ rfl
  simp only [Tryd.ntmps44, List.size_toArray, List.length_cons, List.length_nil, Nat.reduceAdd, Nat.reduceSub, Array.replicate_succ, Array.replicate_zero, List.push_toArray, List.append_toArray, List.nil_append, List.cons_append]
  gi_wp2_with (refine ⟨trivial, ?_⟩; refine (callsIn_wide.2 (places_any c _)).mono ?_; rintro e w' ⟨rfl, rfl⟩)
  have bO := Boxed.new w 38 (.slice none 0 0)
  have bN := Boxed.new (w.alloc (.cells #[.slice none 0 0] 38)) 59 (.pointer (some ⟨c, 0, none⟩))
  rw [World.size_alloc] at bN
  have hB0 : Below w.heap.size w ((w.alloc (.cells #[.slice none 0 0] 38)).alloc (.cells #[.pointer (some ⟨c, 0, none⟩)] 59)) := ((Below.refl _ w).alloc (Nat.le_refl _) _).alloc (by simp) _
  refine wpIn_rangeFunc_ownG rfl (by omega) (gf := 75) (lb := #[.pointer (some ⟨w.heap.size + 1, 0, none⟩)]) rfl trivial (enters_of Tryd.func75 (by kernel_rfl) rfl)
    (places_stops (3 - 1) (by omega) h hT hl hs hM hq (w.heap.size + 1) _ hB0 bN) kpU_t (kpU_b (by simp; omega)) (Below.refl _ _) (fun _ => rfl)
    (fun pre X => (∃ v, Boxed X w.heap.size 38 v ∧ X.ownsRow w.heap.size 3 1 v pre.length (pre.map (Value.int .i64)) ∧ True) ∧ Below w.heap.size w X)
    (fun _ _ _ => False)
    (OwnFrom.and (Own.from (holdsRow_own w.heap.size w.heap.size 38 3 1 (fun (pre : List Int) => pre.length) (fun (pre : List Int) => pre.map (Value.int .i64)) (fun _ _ => True)) _) (ownFrom_below (Nat.le_refl _) (by simp; omega)))
    (fun _ _ _ _ _ hs _ _ => hs)
    ⟨⟨_, bO.alloc _, World.ownsRow_nil _ _ _ _, trivial⟩, hB0⟩
    (fun x => { tmps := #[.pointer (some ⟨c, 0, none⟩), undef, .slice none 0 0, .pointer (some ⟨w.heap.size, 0, none⟩), .int .i64 x, .pointer (some ⟨c, 0, none⟩), .func (.func 75) #[] #[.pointer (some ⟨w.heap.size + 1, 0, none⟩)], .int .i64 x, undef, undef, undef, undef, undef], defers := [] }) ?assign ?body ?done ?stop
  case assign =>
    intro l x W K hK
    gi_wp2
    exact hK
  case body =>
    rintro l0 pre x X ⟨⟨v, hv, hrow, _⟩, hB⟩ hlt
    have hc := hv.cell
    gi_wp2_with (gi_at_builtin; refine wpListIn_append_own _ rfl _ _ 38 rfl w.heap.size 3 i0 (.int .i64 0) 1 8 Tryd.underlying38 hi hz0 hz1 hz2 rfl (by decide) _ _ _ rfl (hrow.alloc _) ⟨X.heap.size, 0, none⟩ 1 1 [.int .i64 x] rfl rfl (cell_one_new _ _ _) (by simp [Value.oneCell']) (by simp only [maxLen]; omega) (by omega) (by have := hB.size; simp; omega) ?_; intro v' w1 hown' hgrow _; obtain ⟨g', cap', rfl⟩ := ownsRow_succ hown'; obtain ⟨hv1, hv2, hr2, hk2, hb2⟩ := hv.appended (by decide) hrow hB.size (Nat.le_refl _) hown' hgrow; have hkp := kpU_app hv hrow hgrow hb2; have hc1 := hv1.cell; have hf1 := hv1.frozen)
    exact ⟨hk2.from _, hkp, ⟨_, hv2, by simpa using hr2, trivial⟩, hB.trans hb2⟩
  case done =>
    rintro D ys X hD rfl ⟨⟨v, hv, hrow, _⟩, hB⟩ hK
    have hc := hv.cell
    gi_wp2
    refine ⟨by simp, .inl ⟨_, _, rfl, run_takeDeferred hK, ?_⟩⟩
    have hr := ownsRow_putObj hrow (.deferred none) hK rfl
    have hb := hB.trans (belowK_b (w := w) (Nat.le_refl _) X D _ (.deferred none) (by simp at hD; omega) hK rfl rfl)
    rcases hr.2 with ⟨rfl, h0⟩ | ⟨g, cp, cur, rfl, _⟩
    · have h00 : (usedC M size P).length = 0 := h0
      exact ⟨_, results_tmp rfl _ _ _, none, 0, by rw [h00]; rfl, by rw [h00] at hr ⊢; exact hr, hb⟩
    · exact ⟨_, results_tmp rfl _ _ _, _, _, rfl, hr, hb⟩
  case stop =>
    rintro D c pre W _ _ h _
    exact h.elim
end Go.Proofs.YtflkoabgkgegjaaDoor
