/- What no cache answers; May; Same of blocks. No condition. -/
import Derived.Test.YtbadoihpbemjjaaDoorY41
/- What no cache answers; May; Same of blocks. No condition. -/
namespace Go.Proofs.YtbadoihpbemjjaaDoor
open Go.RowKit Go.Maps
attribute [local go_sem] Oper.semAt_some

theorem run_neq_blk (x y : Int) (w : World) : (binOp .neq 86 (.agg #[.int .i64 x, .int .i64 y]) (.agg #[.int .i64 x, .int .i64 y])).run Tryd.prog w = .ok (.bool false) w := by simp [go_sem]
set_option maxRecDepth 100000 in
theorem same_b (L : List (Nat × Nat)) (m : Nat) (hm : m = L.length) (A B : Option Addr) (ca cb : Nat) (w : World) (hA : SlR w A (bCells L)) (hB : SlR w B (bCells L)) (hl : m ≤ 1073741824) :
    Calls Tryd.prog 27 #[.slice A m ca, .slice B m cb] w fun e w' => e = .returned (.bool true) ∧ Below w.heap.size w w' := by
  have HA := Lib.hid hA
  have HB := Lib.hid hB
  have HM := Lib.hid hm
  have HL := Lib.hid hl
  clear hA hB hm hl
  go_enter Tryd.func27, Tryd.ntmps27
  go_wp2_with fail
  go_loopw [5] (fun i wr => ∃ k : Nat, k ≤ m ∧ i = .int .i64 k ∧ Below w.heap.size w wr) (fun i _ => m - (intOf i).toNat)
  case atStart => exact ⟨0, Nat.zero_le _, rfl, Below.refl _ _⟩
  case round =>
    obtain ⟨k, hk, rfl, hwr⟩ := hrel
    have Hwr := Lib.hid hwr
    by_cases hlt : k < m
    · have hlt2 : k < L.length := by rw [← HM.out]; exact hlt
      obtain ⟨b, off, rfl, _, q1, q2⟩ := (HA.out.below hwr).blk' hlt2
      obtain ⟨b2, off2, rfl, _, q3, q4⟩ := (HB.out.below hwr).blk' hlt2
      obtain ⟨x, hx⟩ : ∃ x : Int, ((1024 * L[k].1 : Nat) : Int) = x := ⟨_, rfl⟩
      obtain ⟨y, hy⟩ : ∃ y : Int, (L[k].2 : Int) = y := ⟨_, rfl⟩
      rw [hx] at q1 q3
      rw [hy] at q2 q4
      have rn := run_neq_blk x y
      have i1 : (0 : Int) ≤ (k : Int) := Int.natCast_nonneg _
      have i2 : (k : Int) < (m : Int) := by omega
      have zk : IntKind.i64.wrap ((k : Int) + 1) = (k : Int) + 1 := by rw [IntKind.wrap_i64]; have := HL.out; omega
      clear hwr hx hy hlt2
      go_wp2_with fail
      go_quiet (fail)
      go_wp2
      go_roundw
      case rel => exact ⟨k + 1, by omega, by go_num, below_drewN Hwr.out nq⟩
      case measure => (try simp [intOf]) <;> omega
    · have q : ¬ ((k : Int) < (m : Int)) := by omega
      clear hwr
      go_wp2
      go_ret
      exact ⟨rfl, Hwr.out⟩
set_option maxRecDepth 100000 in
theorem stake_nil (w : World) : Calls Tryd.prog 10 #[.pointer none] w fun e w' => e = .returned (.tuple #[.int .i64 0, .int .i64 1]) ∧ w' = w := by
  go_enter Tryd.func10, Tryd.ntmps10
  go_wp2
  go_ret2
  exact ⟨rfl, rfl⟩
set_option maxRecDepth 100000 in
theorem sgive_nil (x : Int) (w : World) : Calls Tryd.prog 12 #[.pointer none, .int .i64 x] w fun e w' => e = .returned (.int .i64 1) ∧ w' = w := by
  go_enter Tryd.func12, Tryd.ntmps12
  go_wp2
  go_ret
  exact ⟨rfl, rfl⟩
set_option maxRecDepth 100000 in
theorem sslabs_nil (w : World) : Calls Tryd.prog 14 #[.pointer none] w fun e w' => e = .returned (.slice none 0 0) ∧ w' = w := by
  go_enter Tryd.func14, Tryd.ntmps14
  go_wp2
  go_ret
  exact ⟨rfl, rfl⟩
set_option maxRecDepth 100000 in
theorem sspot_nil (x : Int) (w : World) : Calls Tryd.prog 39 #[.pointer none, .int .i64 x] w fun e w' => e = .returned (.tuple #[.int .i64 0, .int .i64 0, .bool false]) ∧ w' = w := by
  go_enter Tryd.func39, Tryd.ntmps39
  go_wp2
  go_ret3
  exact ⟨rfl, rfl⟩
set_option maxRecDepth 100000 in
theorem shas_nil (x : Int) (w : World) : Calls Tryd.prog 19 #[.pointer none, .int .i64 x] w fun e w' => e = .returned (.bool false) ∧ w' = w := by
  go_enter Tryd.func19, Tryd.ntmps19
  go_wp2_with fail
  refine (sspot_nil x _).mono ?_
  rintro e w2 ⟨rfl, hw⟩
  have h2 := hw.symm
  clear hw
  subst h2
  go_wp2
  go_ret
  exact ⟨rfl, rfl⟩
theorem splaces_nil (w : World) : Calls Tryd.prog 38 #[.pointer none] w fun e w' => e = .returned (.func (.func 63) #[] #[.pointer (some ⟨w.heap.size, 0, none⟩)]) ∧ w' = w.alloc (.cells #[.pointer none] 25) := by
  go_enter Tryd.func38, Tryd.ntmps38
  go_wp2
  go_ret
  exact ⟨rfl, rfl⟩
theorem places1_nil (nn : Nat) (l0 Bn : Nat) (J Jx : List Int → World → Prop) (W1 : World) (hBn : W1.heap[Bn]? = some (.cells #[.pointer none] 25 (0, 0))) (h0 : J [] W1) :
    CallsIn Fence.wide nn Tryd.prog 63 #[.func (.yield l0) #[] #[], .pointer (some ⟨Bn, 0, none⟩)] W1 fun e Y => (∃ v, e = .returned v) ∧ ((∃ ys, ys = [] ∧ J ys Y) ∨ ∃ pre, True ∧ Jx pre Y) := by
  have b0 := cell_of_row _ _ 0 _ _ _ hBn
  have H0 := Lib.hid h0
  clear h0 hBn
  refine callsIn_of_wp Tryd.func63 rfl trivial ?_ rfl
  simp only [Tryd.ntmps63, List.size_toArray, List.length_cons, List.length_nil, Nat.reduceAdd, Nat.reduceSub, Array.replicate_succ, Array.replicate_zero, List.push_toArray, List.append_toArray, List.nil_append, List.cons_append]
  gi_wp2
  refine bodyPost_ret (results_none rfl _ _ _) rfl ?_
  exact ⟨⟨_, rfl⟩, .inl ⟨[], rfl, H0.out⟩⟩
theorem splaces_stops (nn : Nat) (Bn : Nat) (w w2 : World) (hw : Below w.heap.size w w2) (hBn : w2.heap[Bn]? = some (.cells #[.pointer none] 25 (0, 0))) :
    SeqStopsK Fence.wide nn Tryd.prog 63 #[.pointer (some ⟨Bn, 0, none⟩)] (fun x : Int => #[Value.int .i64 x]) (KpU w.heap.size) (fun ys => ys = []) (fun _ => True) 0 w2 := fun l0 J Jx X hX _ _ _ h0 =>
  places1_nil nn l0 Bn J Jx X ((hX.block Bn (blt hBn)).trans hBn) h0
set_option maxRecDepth 100000 in
set_option maxHeartbeats 4000000 in
theorem sused_nil (w : World) : Calls Tryd.prog 11 #[.pointer none] w fun e w' => ∃ A' k', e = .returned (.slice A' 0 k') ∧ Below w.heap.size w w' := by
  refine (callsIn_wide (n := 3)).1 ?_
  refine callsIn_of_wp_marks Tryd.func11 rfl trivial ?_ rfl
  simp only [Tryd.ntmps11, List.size_toArray, List.length_cons, List.length_nil, Nat.reduceAdd, Nat.reduceSub, Array.replicate_succ, Array.replicate_zero, List.push_toArray, List.append_toArray, List.nil_append, List.cons_append]
  gi_wp2_with (refine ⟨trivial, ?_⟩; refine (callsIn_wide.2 (splaces_nil _)).mono ?_; rintro e w' ⟨rfl, rfl⟩)
  have bO := Boxed.new w 30 (.slice none 0 0)
  have bN := Boxed.new (w.alloc (.cells #[.slice none 0 0] 30)) 25 (.pointer none)
  rw [World.size_alloc] at bN
  have hB0 : Below w.heap.size w ((w.alloc (.cells #[.slice none 0 0] 30)).alloc (.cells #[.pointer none] 25)) := ((Below.refl _ w).alloc (Nat.le_refl _) _).alloc (by simp) _
  refine wpIn_rangeFunc_ownG rfl (by omega) (gf := 63) (lb := #[.pointer (some ⟨w.heap.size + 1, 0, none⟩)]) rfl trivial (enters_of Tryd.func63 (by kernel_rfl) rfl)
    (splaces_stops (3 - 1) (w.heap.size + 1) w _ hB0 bN) kpU_t (kpU_b (by simp; omega)) (Below.refl _ _) (fun _ => rfl)
    (fun pre X => (∃ v, Boxed X w.heap.size 30 v ∧ X.ownsRow w.heap.size 3 1 v pre.length (pre.map (Value.int .i64)) ∧ True) ∧ Below w.heap.size w X)
    (fun _ _ _ => False)
    (OwnFrom.and (Own.from (holdsRow_own w.heap.size w.heap.size 30 3 1 (fun (pre : List Int) => pre.length) (fun (pre : List Int) => pre.map (Value.int .i64)) (fun _ _ => True)) _) (ownFrom_below (Nat.le_refl _) (by simp; omega)))
    (fun _ _ _ _ _ hs _ _ => hs)
    ⟨⟨_, bO.alloc _, World.ownsRow_nil _ _ _ _, trivial⟩, hB0⟩
    (fun x => { tmps := #[.pointer none, undef, .slice none 0 0, .pointer (some ⟨w.heap.size, 0, none⟩), .int .i64 x, .pointer none, .func (.func 63) #[] #[.pointer (some ⟨w.heap.size + 1, 0, none⟩)], .int .i64 x, undef, undef, undef, undef, undef], defers := [] }) ?assign ?body ?done ?stop
  case assign =>
    intro l x W K hK
    gi_wp2
    exact hK
  case body =>
    rintro l0 pre x X _ hlt
    exact absurd hlt (Nat.not_lt_zero _)
  case done =>
    rintro D ys X hD rfl ⟨⟨v, hv, hrow, _⟩, hB⟩ hK
    have hc := hv.cell
    gi_wp2
    refine ⟨by simp, .inl ⟨_, _, rfl, run_takeDeferred hK, ?_⟩⟩
    have hb := hB.trans (belowK_b (w := w) (Nat.le_refl _) X D _ (.deferred none) (by simp at hD; omega) hK rfl rfl)
    rcases hrow.2 with ⟨rfl, h0⟩ | ⟨g, cp, cur, rfl, _⟩
    · exact ⟨_, results_tmp rfl _ _ _, none, 0, rfl, hb⟩
    · exact ⟨_, results_tmp rfl _ _ _, _, _, rfl, hb⟩
  case stop =>
    rintro D c pre W _ _ h _
    exact h.elim
theorem rmay_yes (size : Nat) (h1 : 16 ≤ size) (h2 : size ≤ 512) (h3 : (size : Int).tmod 16 = 0) (S : Int) (hS : S = (size : Int)) (w : World) : Calls Tryd.prog 16 #[.int .i64 S] w fun e w' => e = .returned (.bool true) ∧ w' = w := by
  have t1 : decide ((16 : Int) ≤ S) = true := decide_eq_true (by omega)
  have t2 : decide (S ≤ 512) = true := decide_eq_true (by omega)
  have t3 : (S.tmod 16 == 0) = true := by rw [hS, h3]; rfl
  clear h1 h2 h3 hS
  go_enter Tryd.func16, Tryd.ntmps16
  go_wp2
  go_ret
  exact ⟨rfl, rfl⟩
theorem rmay_no (S : Int) (h : S < 16 ∨ 512 < S ∨ S.tmod 16 ≠ 0) (w : World) : Calls Tryd.prog 16 #[.int .i64 S] w fun e w' => e = .returned (.bool false) ∧ w' = w := by
  by_cases q1 : S < 16
  · have t1 : decide ((16 : Int) ≤ S) = false := decide_eq_false (by omega)
    clear h q1
    go_enter Tryd.func16, Tryd.ntmps16
    go_wp2
    go_ret
    exact ⟨rfl, rfl⟩
  have t1 : decide ((16 : Int) ≤ S) = true := decide_eq_true (by omega)
  by_cases q2 : 512 < S
  · have t2 : decide (S ≤ 512) = false := decide_eq_false (by omega)
    clear h q1 q2
    go_enter Tryd.func16, Tryd.ntmps16
    go_wp2
    go_ret
    exact ⟨rfl, rfl⟩
  have t2 : decide (S ≤ 512) = true := decide_eq_true (by omega)
  have t3 : (S.tmod 16 == 0) = false := by
    simp only [beq_eq_false_iff_ne, ne_eq]
    rcases h with h | h | h
    · omega
    · omega
    · exact h
  clear h q1 q2
  go_enter Tryd.func16, Tryd.ntmps16
  go_wp2
  go_ret
  exact ⟨rfl, rfl⟩
end Go.Proofs.YtbadoihpbemjjaaDoor
