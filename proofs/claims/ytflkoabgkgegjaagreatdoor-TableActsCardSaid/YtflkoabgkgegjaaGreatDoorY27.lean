/- The reference's Give. Condition: its row is read and written. -/
import Derived.Test.YtflkoabgkgegjaaGreatDoorY26
/- The reference's Give. Condition: its row is read and written. -/
namespace Go.Proofs.YtflkoabgkgegjaaGreatDoor
open Go.RowKit

theorem holeL_len {top k : Nat} {ra b : List Tl} (hM : Mid top ra k b) (ht : top ≤ 20) : (holeL ra k b).length ≤ 1048576 := by
  rw [holeL_eq]
  have h1 := blks_length true 0 (ra.reverse ++ (k, false) :: b)
  rw [span_append, span_rev] at h1
  simp only [span] at h1
  have h2 := hM.all
  have h3 : 2 ^ top ≤ 2 ^ 20 := Nat.pow_le_pow_right (by decide) ht
  omega
theorem hole_step {top k : Nat} {ra b : List Tl} (hM : Mid top ra k b) (hk : k < top) {i : Nat} (hi : i < (holeL ra k b).length) (e : (holeL ra k b)[i].1 = otherN (span ra) k) : ((holeL ra k b)[i].2 = k ∧ ∃ x, step ra k b = some x) ∨ ((holeL ra k b)[i].2 ≠ k ∧ step ra k b = none) := by
  have h1 := other_buddy hM hk
  cases hs : step ra k b with
  | none =>
    rw [hs] at h1
    refine .inr ⟨fun e2 => ?_, rfl⟩
    have hm := List.getElem_mem hi
    rw [show (holeL ra k b)[i] = (otherN (span ra) k, k) from Prod.ext e e2] at hm
    have := h1.1 hm
    cases this
  | some x =>
    rw [hs] at h1
    have hm := h1.2 rfl
    have := (holeL_rise ra k b).one (List.getElem_mem hi) hm e
    exact .inl ⟨by rw [this], x, rfl⟩
theorem hole_gone {top k : Nat} {ra b : List Tl} (hM : Mid top ra k b) (hk : k < top) (h : ∀ y ∈ holeL ra k b, ((1024 * y.1 : Nat) : Int) ≠ ((1024 * otherN (span ra) k : Nat) : Int)) : step ra k b = none := by
  have h1 := other_buddy hM hk
  cases hs : step ra k b with
  | none => rfl
  | some x =>
    rw [hs] at h1
    exact absurd rfl (h _ (h1.2 rfl))
set_option maxRecDepth 100000 in
set_option maxHeartbeats 6400000 in
theorem rgive_any {w : World} {g top : Nat} {A1 A2 : Option Addr} {c1 c2 : Nat} {l : List Tl} (h : RB w g top A1 c1 (blks true 0 l) A2 c2 (blks false 0 l)) (hg : Good top l) (ht : top ≤ 20) (x : Int) :
    Calls Tryz.prog 99 #[.pointer (some ⟨g, 0, none⟩), .int .i64 x] w fun e w' => ∃ er : Int, e = .returned (.int .i64 er) ∧ ∃ l' : List Tl, GiveR top l x er l' ∧ (∃ B1 d1 B2 d2, RB w' g top B1 d1 (blks true 0 l') B2 d2 (blks false 0 l')) ∧ w.grownBy w' (some g) := by
  have k2 := h.r2
  have HH := Lib.hid h
  have HG := Lib.hid hg
  have HT := Lib.hid ht
  have HLE2 : Hid ((blks false 0 l).length ≤ 1048576) := Lib.hid (len_good false hg ht)
  clear h hg ht
  go_enter Tryz.func99, Tryz.ntmps99
  go_wp2_with fail
  refine (find_r (blks false 0 l) _ rfl HLE2.out A2 c2 x _ HH.out.u.sl).mono ?_
  rintro e w0 ⟨r, rfl, hf, hw⟩
  have hw2 := hw.symm
  clear hw
  subst hw2
  rcases hf with ⟨rfl, hne⟩ | ⟨i, hi, rfl, hie⟩
  · have HN := Lib.hid hne
    clear hne
    go_wp2
    go_ret
    exact ⟨6, rfl, l, .inl ⟨fun p k e hm => HN.out _ hm (by simp only; omega), rfl, rfl⟩, ⟨_, _, _, _, HH.out⟩, World.grownBy.refl _ _⟩
  · obtain ⟨a, bb, hl, ha⟩ := blks_mem (List.getElem_mem hi)
    rw [Nat.zero_add] at ha
    obtain ⟨k0, hk0⟩ : ∃ k0, (blks false 0 l)[i].2 = k0 := ⟨_, rfl⟩
    rw [hk0] at hl
    obtain ⟨a', off', ea', _, d3, d4⟩ := HH.out.u.sl.blk' hi
    rw [ea'] at k2
    have j0 : (0 : Int) ≤ (i : Int) := by omega
    have j1 : (i : Int) < ((blks false 0 l).length : Int) := by omega
    have j2 : ¬ ((i : Int) < 0) := by omega
    obtain ⟨X0, hX0⟩ : ∃ X : Int, ((1024 * span a : Nat) : Int) = X := ⟨_, rfl⟩
    obtain ⟨K0, hK0⟩ : ∃ K : Int, (k0 : Int) = K := ⟨_, rfl⟩
    rw [ha, hX0] at d3
    rw [hk0, hK0] at d4
    obtain ⟨M, hM⟩ : ∃ M, melt (top - k0) a.reverse k0 bb = M := ⟨_, rfl⟩
    have hcu : (blks false 0 l).take i ++ (blks false 0 l).drop (i + 1) = blks false 0 M := by
      have : ∀ (l2 : List Tl) (e : l = l2) (hi2 : i < (blks false 0 l2).length), (blks false 0 l2)[i].1 = span a := fun l2 e hi2 => by subst e; exact ha
      have h1 := (cut_used (top := top) (k := k0) (i := i) (a := a) (c := bb) (by rw [← hl]; exact hi) (this _ hl _)).1
      rw [← hl, hM] at h1
      exact h1
    have HCU := Lib.hid hcu
    have HGR : Hid (GiveR top l x 0 M) := Lib.hid (.inr ⟨k0, a, bb, hl, by rw [← hie, ha]; omega, rfl, hM.symm⟩)
    have hx0 := RX.start HH.out X0 K0 (cs := #[.int .i64 X0, .int .i64 K0]) rfl
    have kq2 := hx0.rb.r2
    rw [ea'] at kq2
    have HX0 := Lib.hid hx0
    have HXX := Lib.hid hX0
    have HKK := Lib.hid hK0
    have HL := Lib.hid hl
    have HMM := Lib.hid hM
    have HI := Lib.hid hi
    have EA := Lib.hid ea'
    have HCU2 := Lib.hid HH.out.cu
    have HM0 : Hid (Mid top a.reverse k0 bb) := Lib.hid (Mid.of_good (f := false) (by rw [← hl]; exact HG.out))
    have HF0 : Hid (blks true 0 l = holeL a.reverse k0 bb) := Lib.hid (by rw [holeL_eq, List.reverse_reverse, ← hl])
    have hsp0 := span_rev a
    have HSP := Lib.hid hsp0
    obtain ⟨m2, hm2⟩ : ∃ m2, (blks false 0 l).length = m2 := ⟨_, rfl⟩
    rw [hm2] at k2 kq2 j1
    have HM2 := Lib.hid hm2
    clear hcu hx0 hX0 hK0 hl hM hi ha hk0 hie ea' hsp0 hm2
    go_wp2_with fail
    refine (cut_r (blks false 0 l) m2 HM2.out.symm (by have := HM2.out; have := HLE2.out; omega) _ c2 (by have := HM2.out; have := HCU2.out; omega) i (by omega) _ rfl _ (by rw [← EA.out]; exact HX0.out.rb.u.sl)).mono ?_
    rintro e w1 ⟨A', n', c', rfl, hn1, hn2, hh, hfr, hb1⟩
    have hlen1 := congrArg List.length HCU.out
    rw [List.length_append, List.length_take, List.length_drop, HM2.out] at hlen1
    rw [HCU.out] at hh
    have hx1 := HX0.out.below hb1
    have kc := hx1.rb.r2
    have kf := hx1.rb.froz 2
    have HX2 := Lib.hid (hx1.setU (m := n') hh (by omega) hn2 (fun _ a0 ea0 => by
      have := hfr a0 ea0
      rw [World.size_alloc] at this
      omega))
    obtain ⟨A2', hA2'⟩ : ∃ A2', A' = A2' := ⟨_, rfl⟩
    obtain ⟨c2', hc2'⟩ : ∃ c2', c' = c2' := ⟨_, rfl⟩
    rw [hA2', hc2'] at HX2
    rw [hA2', hc2']
    clear hlen1 hh hx1 hb1 hn1 hn2 hfr kq2 hA2' hc2'
    go_wp2
    go_loopw [] (fun wr => ∃ (k : Nat) (ra b' : List Tl) (B1 : Option Addr) (d1 : Nat), Mid top ra k b' ∧ melt (top - k) ra k b' = M ∧ RX w wr g top w.heap.size B1 d1 (holeL ra k b') A2' c2' (blks false 0 M) ((1024 * span ra : Nat) : Int) (k : Int)) (fun wr => top - kOf wr w.heap.size)
    case atStart => exact ⟨k0, a.reverse, bb, _, _, HM0.out, HMM.out, by rw [HSP.out, HXX.out, HKK.out, ← HF0.out]; exact HX2.out⟩
    case round =>
      obtain ⟨k, ra, b', B1, d1, hmid, hend, hx⟩ := hrel
      have HMe : Hid (kOf wr w.heap.size = k) := Lib.hid (by rw [hx.kOf]; exact Int.toNat_natCast _)
      obtain ⟨X, hX⟩ : ∃ X : Int, ((1024 * span ra : Nat) : Int) = X := ⟨_, rfl⟩
      obtain ⟨K, hK⟩ : ∃ K : Int, (k : Int) = K := ⟨_, rfl⟩
      obtain ⟨T, hTT⟩ : ∃ T : Int, (top : Int) = T := ⟨_, rfl⟩
      rw [hX, hK] at hx
      have y0 := hx.rb.r0
      rw [hTT] at y0
      have y1 := hx.rb.r1
      have x0 := hx.bx.x0
      have x1 := hx.bx.x1
      have HX := Lib.hid hX
      have HK := Lib.hid hK
      have HXR := Lib.hid hx
      have HMID := Lib.hid hmid
      have HMELT := Lib.hid hend
      have HLE : Hid ((holeL ra k b').length ≤ 1048576) := Lib.hid (holeL_len hmid HT.out)
      have hkt := hmid.le
      by_cases hlt : k < top
      · have t1 : decide (K < T) = true := decide_eq_true (by omega)
        have hk20 : k ≤ 20 := by have := HT.out; omega
        have HK20 := Lib.hid hk20
        have HLT := Lib.hid hlt
        obtain ⟨Z, hZ⟩ : ∃ Z : Int, ((1024 * 2 ^ k : Nat) : Int) = Z := ⟨_, rfl⟩
        obtain ⟨O, hO⟩ : ∃ O : Int, ((1024 * otherN (span ra) k : Nat) : Int) = O := ⟨_, rfl⟩
        obtain ⟨XA, hXA⟩ : ∃ XA : Int, X + Z = XA := ⟨_, rfl⟩
        have hall := hmid.all
        have htp : 2 ^ top ≤ 2 ^ 20 := Nat.pow_le_pow_right (by decide) HT.out
        have hkp := two_pos k
        have zA : IntKind.i64.wrap (X + Z) = XA := by rw [hXA, IntKind.wrap_i64]; omega
        obtain ⟨qd, hqd⟩ : ∃ qd, span ra / 2 ^ k = qd := ⟨_, rfl⟩
        have hqlt : qd ≤ span ra := by rw [← hqd]; exact Nat.div_le_self _ _
        obtain ⟨Q, hQ⟩ : ∃ Q : Int, (qd : Int) = Q := ⟨_, rfl⟩
        have zQ : wrap64 (X.tdiv Z) = Q := by
          have : X.tdiv Z = (qd : Int) := by
            rw [← hX, ← hZ, Int.tdiv_eq_ediv_of_nonneg (by omega), ← Int.natCast_ediv, Nat.mul_div_mul_left _ _ (by decide), hqd]
          rw [this, hQ]
          unfold wrap64
          omega
        have z0 : ¬ (Z = 0) := by omega
        have HZ := Lib.hid hZ
        have HO := Lib.hid hO
        by_cases par : qd % 2 = 1
        case' pos =>
          have hpge : 2 ^ k ≤ span ra := by
            rcases Nat.lt_or_ge (span ra) (2 ^ k) with q | q
            · rw [Nat.div_eq_of_lt q] at hqd
              omega
            · exact q
          have ho : otherN (span ra) k = span ra - 2 ^ k := by unfold otherN; rw [hqd, if_pos par]
          have zR : Q.tmod 2 = 1 := by rw [← hQ, Int.tmod_eq_emod_of_nonneg (by omega)]; omega
          have zS : IntKind.i64.wrap (X - Z) = O := by rw [IntKind.wrap_i64, ← hO, ho]; omega
          have sO : decide (O < X) = true := decide_eq_true (by rw [← hO, ho]; omega)
          have HMIN : Hid (∀ p, min (otherN (span ra) k) (span ra) = p → ((1024 * p : Nat) : Int) = O) := Lib.hid (fun p hp => by rw [← hp, Nat.min_eq_left (by omega), ← HO.out])
        case' neg =>
          have ho : otherN (span ra) k = span ra + 2 ^ k := by unfold otherN; rw [hqd, if_neg par]
          have zR : Q.tmod 2 = 0 := by rw [← hQ, Int.tmod_eq_emod_of_nonneg (by omega)]; omega
          have zS : XA = O := by rw [← hXA, ← hX, ← hZ, ← hO, ho]; omega
          rw [zS] at zA hXA
          have sO : decide (O < X) = false := decide_eq_false (by rw [← hO, ho]; omega)
          have HMIN : Hid (∀ p, min (otherN (span ra) k) (span ra) = p → ((1024 * p : Nat) : Int) = X) := Lib.hid (fun p hp => by rw [← hp, Nat.min_eq_right (by omega), ← HX.out])
        all_goals
          clear hO hZ hXA hall htp hkp hqd hqlt hQ par ho hX hK hTT hlt hk20 hmid hend hkt
          go_wp2_with fail
          go_quiet (fail)
          have hx1 := hx.below (below_drewN (Below.refl _ _) nq)
          generalize hwq : wr.drewN nq = wq at hx1 ⊢
          have y1 := hx1.rb.r1
          have x0 := hx1.bx.x0
          have x1 := hx1.bx.x1
          have HX1 := Lib.hid hx1
          clear hx hwq nq
          go_wp2_with fail
          refine (size_r k HK20.out K HK.out.symm _).mono ?_
          rintro e w8 ⟨rfl, hw8⟩
          have hw9 := hw8.symm
          clear hw8
          subst hw9
          rw [HZ.out]
          go_wp2_with fail
          refine (find_r (holeL ra k b') _ rfl HLE.out B1 d1 O _ HX1.out.rb.f.sl).mono ?_
          rintro e w8 ⟨r, rfl, hf, hw8⟩
          have hw9 := hw8.symm
          clear hw8
          subst hw9
          rcases hf with ⟨rfl, hne⟩ | ⟨i2, hi2, rfl, hie2⟩
          · have HEND : Hid (blks true 0 M = blks true 0 (ra.reverse ++ (k, true) :: b')) := Lib.hid (by rw [← HMELT.out, melt_stop (hole_gone HMID.out HLT.out (by rw [HO.out]; exact hne))])
            clear hne
            go_wp2_with fail
            go_quiet (fail)
            have hx2 := HX1.out.below (below_drewN (Below.refl _ _) nq)
            generalize hwq2 : wq.drewN nq = wq2 at hx2 ⊢
            clear hwq2 nq y1 x0 x1
            go_wp2_with fail
            have hxd := (hx2).below (Below.refl _ _).drew
            have HXD := Lib.hid hxd
            have yd := hxd.rb.r1
            have SK : Hid (∀ w' B d L, RX w w' g top w.heap.size B d L A2' c2' (blks false 0 M) X K → w'.cell? ⟨w.heap.size, 0, none⟩ = some (.int .i64 X) ∧ w'.cell? ⟨w.heap.size, 1, none⟩ = some (.int .i64 K)) := Lib.hid (fun w' _ _ _ h => ⟨h.bx.x0, h.bx.x1⟩)
            have BB : Hid (w.heap.size < _) := Lib.hid (blt hxd.bx)
            refine wp_region_held_drew (S := (fun w' => w'.cell? ⟨w.heap.size, 0, none⟩ = some (.int .i64 X) ∧ w'.cell? ⟨w.heap.size, 1, none⟩ = some (.int .i64 K))) (by kernel_rfl) (SK.out _ _ _ _ hxd) (fun hHeld => ?_)
            refine wpAnyH_take (i := 0) (oi := { dst := some 98, op := Op.move (Operand.tmp 0), type := 53, pos := "ref.go:109", after := #[], guard := none }) (v := ?_) rfl (by kernel_rfl) (by kernel_rfl) (by kernel_rfl) (fun _ _ _ h => h) (Or.inl ⟨by rfl, ?_⟩) hHeld ?_
            rotate_left
            · intro w hSw
              (try dsimp only at hSw)
              go_simp
              try with_reducible rfl
            try simp only [Act.put, List.setIfInBounds_toArray, List.set_cons_zero, List.set_cons_succ]
            refine wpAnyH_take (i := 1) (oi := { dst := some 99, op := Op.move (Operand.tmp 0), type := 53, pos := "ref.go:109", after := #[], guard := none }) (v := ?_) rfl (by kernel_rfl) (by kernel_rfl) (by kernel_rfl) (fun _ _ _ h => h) (Or.inl ⟨by rfl, ?_⟩) hHeld ?_
            rotate_left
            · intro w hSw
              (try dsimp only at hSw)
              go_simp
              try with_reducible rfl
            try simp only [Act.put, List.setIfInBounds_toArray, List.set_cons_zero, List.set_cons_succ]
            refine wpAnyH_take (i := 2) (oi := { dst := some 100, op := Op.nilCheck (Operand.tmp 99), type := 0, pos := "ref.go:109", after := #[{ on := 1, ground := Ground.data }], guard := none }) (v := ?_) rfl (by kernel_rfl) (by kernel_rfl) (by kernel_rfl) (fun _ _ _ h => h) (Or.inl ⟨by rfl, ?_⟩) hHeld ?_
            rotate_left
            · intro w hSw
              (try dsimp only at hSw)
              go_simp
              try with_reducible rfl
            try simp only [Act.put, List.setIfInBounds_toArray, List.set_cons_zero, List.set_cons_succ]
            refine wpAnyH_take (i := 3) (oi := { dst := some 101, op := Op.fieldAddr 138 (Operand.tmp 100) 1, type := 0, pos := "ref.go:109", after := #[{ on := 2, ground := Ground.data }], guard := none }) (v := ?_) rfl (by kernel_rfl) (by kernel_rfl) (by kernel_rfl) (fun _ _ _ h => h) (Or.inl ⟨by rfl, ?_⟩) hHeld ?_
            rotate_left
            · intro w hSw
              (try dsimp only at hSw)
              go_simp
              try with_reducible rfl
            try simp only [Act.put, List.setIfInBounds_toArray, List.set_cons_zero, List.set_cons_succ]
            refine wpAnyH_take (i := 5) (oi := { dst := some 103, op := Op.load 135 (Operand.tmp 6), type := 135, pos := "ref.go:109", after := #[], guard := none }) (v := ?_) rfl (by kernel_rfl) (by kernel_rfl) (by kernel_rfl) (fun _ _ _ h => h) (Or.inl ⟨by rfl, ?_⟩) hHeld ?_
            rotate_left
            · intro w hSw
              (try dsimp only at hSw)
              go_simp
              try with_reducible rfl
            try simp only [Act.put, List.setIfInBounds_toArray, List.set_cons_zero, List.set_cons_succ]
            refine wpAnyH_ready (rs := [4]) (by kernel_rfl) (by simp) ?_
            refine AllReadyH.cons (o := { dst := some 102, op := Op.load 136 (Operand.tmp 101), type := 136, pos := "ref.go:109", after := #[{ on := 3, ground := Ground.data }], guard := none }) rfl (fun Kq hKq => ?_) AllReadyH.nil
            go_simp
            try go_simp
            refine hKq.out _ _ (SK.out _ _ _ _ (by assumption)) (fun hHeld => ?_)
            clear hKq Kq
            try simp only [Act.put, List.setIfInBounds_toArray, List.set_cons_zero, List.set_cons_succ]
            refine wpAnyH_ready (rs := [6]) (by kernel_rfl) (by simp) ?_
            refine AllReadyH.cons (o := { dst := some 104, op := Op.call { callee := Callee.value (Operand.func 97), args := #[Operand.tmp 102, Operand.tmp 103], argTypes := #[136, 135] }, type := 136, pos := "ref.go:109", after := #[{ on := 4, ground := Ground.data }, { on := 5, ground := Ground.data }], guard := none }) rfl (fun Kq hKq => ?_) AllReadyH.nil
            go_simp
            go_at_call 97; (with_reducible refine (put_r (holeL ra k b') _ rfl HLE.out B1 d1 HXD.out.rb.cf (span ra, k) X K HX.out.symm HK.out.symm _ HXD.out.rb.f.sl).mono ?_); rintro e w9 ⟨A', c', L', rfl, hc9, hp9, hh9, hfr9, hb9⟩; have hx9 := HXD.out.below hb9; have z9 := hx9.rb.r1; have f9 := hx9.rb.froz 1; have hn9 := hp9.len; have hs9 := hx9.setF hh9 hn9.symm hc9 (fun _ a0 ea0 => by have h1 := hfr9 a0 ea0; have h2 := BB.out; omega)
            try go_simp
            refine hKq.out _ _ (SK.out _ _ _ _ (by assumption)) (fun hHeld => ?_)
            clear hKq Kq
            try simp only [Act.put, List.setIfInBounds_toArray, List.set_cons_zero, List.set_cons_succ]
            refine wpAnyH_take (i := 7) (oi := { dst := some 105, op := Op.nilCheck (Operand.tmp 98), type := 0, pos := "ref.go:109", after := #[{ on := 0, ground := Ground.data }, { on := 0, ground := Ground.phase }, { on := 1, ground := Ground.phase }, { on := 2, ground := Ground.phase }, { on := 3, ground := Ground.phase }, { on := 4, ground := Ground.phase }, { on := 5, ground := Ground.phase }, { on := 6, ground := Ground.phase }], guard := none }) (v := ?_) rfl (by kernel_rfl) (by kernel_rfl) (by kernel_rfl) (fun _ _ _ h => h) (Or.inl ⟨by rfl, ?_⟩) hHeld ?_
            rotate_left
            · intro w hSw
              (try dsimp only at hSw)
              go_simp
              try with_reducible rfl
            try simp only [Act.put, List.setIfInBounds_toArray, List.set_cons_zero, List.set_cons_succ]
            refine wpAnyH_take (i := 8) (oi := { dst := some 106, op := Op.fieldAddr 138 (Operand.tmp 105) 1, type := 0, pos := "ref.go:109", after := #[{ on := 7, ground := Ground.data }, { on := 0, ground := Ground.phase }, { on := 1, ground := Ground.phase }, { on := 2, ground := Ground.phase }, { on := 3, ground := Ground.phase }, { on := 4, ground := Ground.phase }, { on := 5, ground := Ground.phase }, { on := 6, ground := Ground.phase }], guard := none }) (v := ?_) rfl (by kernel_rfl) (by kernel_rfl) (by kernel_rfl) (fun _ _ _ h => h) (Or.inl ⟨by rfl, ?_⟩) hHeld ?_
            rotate_left
            · intro w hSw
              (try dsimp only at hSw)
              go_simp
              try with_reducible rfl
            try simp only [Act.put, List.setIfInBounds_toArray, List.set_cons_zero, List.set_cons_succ]
            refine wpAnyH_ready (rs := [9]) (by kernel_rfl) (by simp) ?_
            refine AllReadyH.cons (o := { dst := none, op := Op.store 136 (Operand.tmp 106) (Operand.tmp 104), type := 0, pos := "ref.go:109", after := #[{ on := 8, ground := Ground.data }, { on := 6, ground := Ground.data }, { on := 6, ground := Ground.chain }, { on := 0, ground := Ground.phase }, { on := 1, ground := Ground.phase }, { on := 2, ground := Ground.phase }, { on := 3, ground := Ground.phase }, { on := 4, ground := Ground.phase }, { on := 5, ground := Ground.phase }, { on := 6, ground := Ground.phase }], guard := none }) rfl (fun Kq hKq => ?_) AllReadyH.nil
            go_simp
            try go_simp
            refine hKq.out _ _ (SK.out _ _ _ _ (by assumption)) (fun hHeld => ?_)
            clear hKq Kq
            try simp only [Act.put, List.setIfInBounds_toArray, List.set_cons_zero, List.set_cons_succ]
            refine wpAnyH_done (by kernel_rfl) ?_ _
            rw [put_hole hp9, ← HEND.out] at hs9
            have HX10 := Lib.hid hs9
            clear hp9 hn9 hh9 hfr9 hb9 hx9 hc9 hs9 z9 f9 yd
            go_wp2
            go_ret
            exact ⟨0, rfl, M, HGR.out, ⟨_, _, _, _, HX10.out.rb⟩, HX10.out.gr⟩
          · obtain ⟨bq, oq, eB, _, q1, q2⟩ := HX1.out.rb.f.sl.blk' hi2
            have he2 : (holeL ra k b')[i2].1 = otherN (span ra) k := by have := HO.out; omega
            subst eB
            have e0 : (0 : Int) ≤ (i2 : Int) := by omega
            have e1 : (i2 : Int) < ((holeL ra k b').length : Int) := by omega
            have e2 : decide ((i2 : Int) < 0) = false := decide_eq_false (by omega)
            rcases hole_step HMID.out HLT.out hi2 he2 with ⟨hk2, ⟨ra', b''⟩, hs⟩ | ⟨hk2, hs⟩
            · rw [hk2, HK.out] at q2
              have HS := Lib.hid hs
              have HI2 := Lib.hid hi2
              have HE2 : Hid (∃ hi : i2 < (holeL ra k b').length, (holeL ra k b')[i2].1 = otherN (span ra) k) := Lib.hid ⟨hi2, he2⟩
              obtain ⟨K1, hK1⟩ : ∃ K1 : Int, K + 1 = K1 := ⟨_, rfl⟩
              have zK : IntKind.i64.wrap (K + 1) = K1 := by have := HK.out; have := HK20.out; rw [hK1, IntKind.wrap_i64]; omega
              have HK1 : Hid (((k + 1 : Nat) : Int) = K1) := Lib.hid (by have := HK.out; omega)
              clear hs hk2 q1 hie2 he2 hi2 hK1
              go_wp2_with fail
              go_quiet (fail)
              have hx2 := HX1.out.below (below_drewN (Below.refl _ _) nq)
              generalize hwq2 : wq.drewN nq = wq2 at hx2 ⊢
              have HX2 := Lib.hid hx2
              have w1' := hx2.rb.r1
              clear hwq2 nq y1 x0 x1 hx2 q2
              go_wp2_with fail
              refine (cut_r (holeL ra k b') _ rfl HLE.out _ d1 HX2.out.rb.cf i2 HI2.out _ rfl _ HX2.out.rb.f.sl).mono ?_
              rintro e w3 ⟨A', n', c', rfl, hn1, hn2, hh, hfr, hb3⟩
              obtain ⟨hch, hmn⟩ := cut_hole HS.out HE2.out.1 HE2.out.2
              have hlen1 := congrArg List.length hch
              rw [List.length_append, List.length_take, List.length_drop] at hlen1
              rw [hch] at hh
              have hx3 := HX2.out.below hb3
              have z3 := hx3.rb.r1
              have f3 := hx3.rb.froz 1
              have hx4 := hx3.setF (m := n') hh (by have := HI2.out; omega) hn2 (fun _ a0 ea0 => by
                have := hfr a0 ea0
                have := blt HX2.out.bx
                omega)
              have v0 := hx4.bx.x0
              have v1 := hx4.bx.x1
              have vf0 := hx4.bx.froz 0
              have vf1 := hx4.bx.froz 1
              have hx5 := hx4.set0 O
              have u1 := hx5.bx.x1
              have uf1 := hx5.bx.froz 1
              have HXO := Lib.hid (hx5.set1 K1)
              have HXE := Lib.hid (hx4.set1 K1)
              have HMN := Lib.hid hmn
              have HML : Hid (melt (top - (k + 1)) ra' (k + 1) b'' = M) := Lib.hid (by
                have h1 := HMELT.out
                rw [show top - k = (top - (k + 1)) + 1 by have := HLT.out; omega, melt_step HS.out] at h1
                exact h1)
              have HMS := Lib.hid (HMID.out.step_ HS.out)
              clear hx3 hx4 hx5 hh hfr hb3 hch hmn hlen1 hn1 hn2 w1'
              go_wp2
              go_roundw
              case rel => first | exact ⟨k + 1, ra', b'', _, _, HMS.out, HML.out, by rw [HMIN.out _ HMN.out, HK1.out]; exact HXO.out⟩ | exact ⟨k + 1, ra', b'', _, _, HMS.out, HML.out, by rw [HMIN.out _ HMN.out, HK1.out]; exact HXE.out⟩
              case measure => first | (rw [HXO.out.kOf, HMe.out, ← HK1.out]; have := HLT.out; omega) | (rw [HXE.out.kOf, HMe.out, ← HK1.out]; have := HLT.out; omega)
            · obtain ⟨Y, hY⟩ : ∃ Y : Int, ((holeL ra k b')[i2].2 : Int) = Y := ⟨_, rfl⟩
              rw [hY] at q2
              have hyk : (Y != K) = true := by
                have := HK.out
                have : Y ≠ K := by omega
                simpa using this
              have HEND : Hid (blks true 0 M = blks true 0 (ra.reverse ++ (k, true) :: b')) := Lib.hid (by rw [← HMELT.out, melt_stop hs])
              clear hs hk2 q1 hie2 he2 hi2 hY
              go_wp2_with fail
              go_quiet (fail)
              have hx2 := HX1.out.below (below_drewN (Below.refl _ _) nq)
              generalize hwq2 : wq.drewN nq = wq2 at hx2 ⊢
              clear hwq2 nq y1 x0 x1 q2
              go_wp2_with fail
              have hxd := (hx2).below (Below.refl _ _).drew
              have HXD := Lib.hid hxd
              have yd := hxd.rb.r1
              have SK : Hid (∀ w' B d L, RX w w' g top w.heap.size B d L A2' c2' (blks false 0 M) X K → w'.cell? ⟨w.heap.size, 0, none⟩ = some (.int .i64 X) ∧ w'.cell? ⟨w.heap.size, 1, none⟩ = some (.int .i64 K)) := Lib.hid (fun w' _ _ _ h => ⟨h.bx.x0, h.bx.x1⟩)
              have BB : Hid (w.heap.size < _) := Lib.hid (blt hxd.bx)
              refine wp_region_held_drew (S := (fun w' => w'.cell? ⟨w.heap.size, 0, none⟩ = some (.int .i64 X) ∧ w'.cell? ⟨w.heap.size, 1, none⟩ = some (.int .i64 K))) (by kernel_rfl) (SK.out _ _ _ _ hxd) (fun hHeld => ?_)
              refine wpAnyH_take (i := 0) (oi := { dst := some 98, op := Op.move (Operand.tmp 0), type := 53, pos := "ref.go:109", after := #[], guard := none }) (v := ?_) rfl (by kernel_rfl) (by kernel_rfl) (by kernel_rfl) (fun _ _ _ h => h) (Or.inl ⟨by rfl, ?_⟩) hHeld ?_
              rotate_left
              · intro w hSw
                (try dsimp only at hSw)
                go_simp
                try with_reducible rfl
              try simp only [Act.put, List.setIfInBounds_toArray, List.set_cons_zero, List.set_cons_succ]
              refine wpAnyH_take (i := 1) (oi := { dst := some 99, op := Op.move (Operand.tmp 0), type := 53, pos := "ref.go:109", after := #[], guard := none }) (v := ?_) rfl (by kernel_rfl) (by kernel_rfl) (by kernel_rfl) (fun _ _ _ h => h) (Or.inl ⟨by rfl, ?_⟩) hHeld ?_
              rotate_left
              · intro w hSw
                (try dsimp only at hSw)
                go_simp
                try with_reducible rfl
              try simp only [Act.put, List.setIfInBounds_toArray, List.set_cons_zero, List.set_cons_succ]
              refine wpAnyH_take (i := 2) (oi := { dst := some 100, op := Op.nilCheck (Operand.tmp 99), type := 0, pos := "ref.go:109", after := #[{ on := 1, ground := Ground.data }], guard := none }) (v := ?_) rfl (by kernel_rfl) (by kernel_rfl) (by kernel_rfl) (fun _ _ _ h => h) (Or.inl ⟨by rfl, ?_⟩) hHeld ?_
              rotate_left
              · intro w hSw
                (try dsimp only at hSw)
                go_simp
                try with_reducible rfl
              try simp only [Act.put, List.setIfInBounds_toArray, List.set_cons_zero, List.set_cons_succ]
              refine wpAnyH_take (i := 3) (oi := { dst := some 101, op := Op.fieldAddr 138 (Operand.tmp 100) 1, type := 0, pos := "ref.go:109", after := #[{ on := 2, ground := Ground.data }], guard := none }) (v := ?_) rfl (by kernel_rfl) (by kernel_rfl) (by kernel_rfl) (fun _ _ _ h => h) (Or.inl ⟨by rfl, ?_⟩) hHeld ?_
              rotate_left
              · intro w hSw
                (try dsimp only at hSw)
                go_simp
                try with_reducible rfl
              try simp only [Act.put, List.setIfInBounds_toArray, List.set_cons_zero, List.set_cons_succ]
              refine wpAnyH_take (i := 5) (oi := { dst := some 103, op := Op.load 135 (Operand.tmp 6), type := 135, pos := "ref.go:109", after := #[], guard := none }) (v := ?_) rfl (by kernel_rfl) (by kernel_rfl) (by kernel_rfl) (fun _ _ _ h => h) (Or.inl ⟨by rfl, ?_⟩) hHeld ?_
              rotate_left
              · intro w hSw
                (try dsimp only at hSw)
                go_simp
                try with_reducible rfl
              try simp only [Act.put, List.setIfInBounds_toArray, List.set_cons_zero, List.set_cons_succ]
              refine wpAnyH_ready (rs := [4]) (by kernel_rfl) (by simp) ?_
              refine AllReadyH.cons (o := { dst := some 102, op := Op.load 136 (Operand.tmp 101), type := 136, pos := "ref.go:109", after := #[{ on := 3, ground := Ground.data }], guard := none }) rfl (fun Kq hKq => ?_) AllReadyH.nil
              go_simp
              try go_simp
              refine hKq.out _ _ (SK.out _ _ _ _ (by assumption)) (fun hHeld => ?_)
              clear hKq Kq
              try simp only [Act.put, List.setIfInBounds_toArray, List.set_cons_zero, List.set_cons_succ]
              refine wpAnyH_ready (rs := [6]) (by kernel_rfl) (by simp) ?_
              refine AllReadyH.cons (o := { dst := some 104, op := Op.call { callee := Callee.value (Operand.func 97), args := #[Operand.tmp 102, Operand.tmp 103], argTypes := #[136, 135] }, type := 136, pos := "ref.go:109", after := #[{ on := 4, ground := Ground.data }, { on := 5, ground := Ground.data }], guard := none }) rfl (fun Kq hKq => ?_) AllReadyH.nil
              go_simp
              go_at_call 97; (with_reducible refine (put_r (holeL ra k b') _ rfl HLE.out _ d1 HXD.out.rb.cf (span ra, k) X K HX.out.symm HK.out.symm _ HXD.out.rb.f.sl).mono ?_); rintro e w9 ⟨A', c', L', rfl, hc9, hp9, hh9, hfr9, hb9⟩; have hx9 := HXD.out.below hb9; have z9 := hx9.rb.r1; have f9 := hx9.rb.froz 1; have hn9 := hp9.len; have hs9 := hx9.setF hh9 hn9.symm hc9 (fun _ a0 ea0 => by have h1 := hfr9 a0 ea0; have h2 := BB.out; omega)
              try go_simp
              refine hKq.out _ _ (SK.out _ _ _ _ (by assumption)) (fun hHeld => ?_)
              clear hKq Kq
              try simp only [Act.put, List.setIfInBounds_toArray, List.set_cons_zero, List.set_cons_succ]
              refine wpAnyH_take (i := 7) (oi := { dst := some 105, op := Op.nilCheck (Operand.tmp 98), type := 0, pos := "ref.go:109", after := #[{ on := 0, ground := Ground.data }, { on := 0, ground := Ground.phase }, { on := 1, ground := Ground.phase }, { on := 2, ground := Ground.phase }, { on := 3, ground := Ground.phase }, { on := 4, ground := Ground.phase }, { on := 5, ground := Ground.phase }, { on := 6, ground := Ground.phase }], guard := none }) (v := ?_) rfl (by kernel_rfl) (by kernel_rfl) (by kernel_rfl) (fun _ _ _ h => h) (Or.inl ⟨by rfl, ?_⟩) hHeld ?_
              rotate_left
              · intro w hSw
                (try dsimp only at hSw)
                go_simp
                try with_reducible rfl
              try simp only [Act.put, List.setIfInBounds_toArray, List.set_cons_zero, List.set_cons_succ]
              refine wpAnyH_take (i := 8) (oi := { dst := some 106, op := Op.fieldAddr 138 (Operand.tmp 105) 1, type := 0, pos := "ref.go:109", after := #[{ on := 7, ground := Ground.data }, { on := 0, ground := Ground.phase }, { on := 1, ground := Ground.phase }, { on := 2, ground := Ground.phase }, { on := 3, ground := Ground.phase }, { on := 4, ground := Ground.phase }, { on := 5, ground := Ground.phase }, { on := 6, ground := Ground.phase }], guard := none }) (v := ?_) rfl (by kernel_rfl) (by kernel_rfl) (by kernel_rfl) (fun _ _ _ h => h) (Or.inl ⟨by rfl, ?_⟩) hHeld ?_
              rotate_left
              · intro w hSw
                (try dsimp only at hSw)
                go_simp
                try with_reducible rfl
              try simp only [Act.put, List.setIfInBounds_toArray, List.set_cons_zero, List.set_cons_succ]
              refine wpAnyH_ready (rs := [9]) (by kernel_rfl) (by simp) ?_
              refine AllReadyH.cons (o := { dst := none, op := Op.store 136 (Operand.tmp 106) (Operand.tmp 104), type := 0, pos := "ref.go:109", after := #[{ on := 8, ground := Ground.data }, { on := 6, ground := Ground.data }, { on := 6, ground := Ground.chain }, { on := 0, ground := Ground.phase }, { on := 1, ground := Ground.phase }, { on := 2, ground := Ground.phase }, { on := 3, ground := Ground.phase }, { on := 4, ground := Ground.phase }, { on := 5, ground := Ground.phase }, { on := 6, ground := Ground.phase }], guard := none }) rfl (fun Kq hKq => ?_) AllReadyH.nil
              go_simp
              try go_simp
              refine hKq.out _ _ (SK.out _ _ _ _ (by assumption)) (fun hHeld => ?_)
              clear hKq Kq
              try simp only [Act.put, List.setIfInBounds_toArray, List.set_cons_zero, List.set_cons_succ]
              refine wpAnyH_done (by kernel_rfl) ?_ _
              rw [put_hole hp9, ← HEND.out] at hs9
              have HX10 := Lib.hid hs9
              clear hp9 hn9 hh9 hfr9 hb9 hx9 hc9 hs9 z9 f9 yd
              go_wp2
              go_ret
              exact ⟨0, rfl, M, HGR.out, ⟨_, _, _, _, HX10.out.rb⟩, HX10.out.gr⟩
      · have t1 : decide (K < T) = false := decide_eq_false (by omega)
        have hke : top - k = 0 := by omega
        have HEND : Hid (blks true 0 M = blks true 0 (ra.reverse ++ (k, true) :: b')) := Lib.hid (by rw [← hend, hke]; rfl)
        clear hlt hke hkt hX hK hTT hmid hend
        go_wp2_with fail
        go_quiet (fail)
        have hx1 := hx.below (below_drewN (Below.refl _ _) nq)
        generalize hwq : wr.drewN nq = wq at hx1 ⊢
        clear hx hwq y0 y1 x0 x1
        go_wp2_with fail
        have hxd := (hx1).below (Below.refl _ _).drew
        have HXD := Lib.hid hxd
        have yd := hxd.rb.r1
        have SK : Hid (∀ w' B d L, RX w w' g top w.heap.size B d L A2' c2' (blks false 0 M) X K → w'.cell? ⟨w.heap.size, 0, none⟩ = some (.int .i64 X) ∧ w'.cell? ⟨w.heap.size, 1, none⟩ = some (.int .i64 K)) := Lib.hid (fun w' _ _ _ h => ⟨h.bx.x0, h.bx.x1⟩)
        have BB : Hid (w.heap.size < _) := Lib.hid (blt hxd.bx)
        refine wp_region_held_drew (S := (fun w' => w'.cell? ⟨w.heap.size, 0, none⟩ = some (.int .i64 X) ∧ w'.cell? ⟨w.heap.size, 1, none⟩ = some (.int .i64 K))) (by kernel_rfl) (SK.out _ _ _ _ hxd) (fun hHeld => ?_)
        refine wpAnyH_take (i := 0) (oi := { dst := some 98, op := Op.move (Operand.tmp 0), type := 53, pos := "ref.go:109", after := #[], guard := none }) (v := ?_) rfl (by kernel_rfl) (by kernel_rfl) (by kernel_rfl) (fun _ _ _ h => h) (Or.inl ⟨by rfl, ?_⟩) hHeld ?_
        rotate_left
        · intro w hSw
          (try dsimp only at hSw)
          go_simp
          try with_reducible rfl
        try simp only [Act.put, List.setIfInBounds_toArray, List.set_cons_zero, List.set_cons_succ]
        refine wpAnyH_take (i := 1) (oi := { dst := some 99, op := Op.move (Operand.tmp 0), type := 53, pos := "ref.go:109", after := #[], guard := none }) (v := ?_) rfl (by kernel_rfl) (by kernel_rfl) (by kernel_rfl) (fun _ _ _ h => h) (Or.inl ⟨by rfl, ?_⟩) hHeld ?_
        rotate_left
        · intro w hSw
          (try dsimp only at hSw)
          go_simp
          try with_reducible rfl
        try simp only [Act.put, List.setIfInBounds_toArray, List.set_cons_zero, List.set_cons_succ]
        refine wpAnyH_take (i := 2) (oi := { dst := some 100, op := Op.nilCheck (Operand.tmp 99), type := 0, pos := "ref.go:109", after := #[{ on := 1, ground := Ground.data }], guard := none }) (v := ?_) rfl (by kernel_rfl) (by kernel_rfl) (by kernel_rfl) (fun _ _ _ h => h) (Or.inl ⟨by rfl, ?_⟩) hHeld ?_
        rotate_left
        · intro w hSw
          (try dsimp only at hSw)
          go_simp
          try with_reducible rfl
        try simp only [Act.put, List.setIfInBounds_toArray, List.set_cons_zero, List.set_cons_succ]
        refine wpAnyH_take (i := 3) (oi := { dst := some 101, op := Op.fieldAddr 138 (Operand.tmp 100) 1, type := 0, pos := "ref.go:109", after := #[{ on := 2, ground := Ground.data }], guard := none }) (v := ?_) rfl (by kernel_rfl) (by kernel_rfl) (by kernel_rfl) (fun _ _ _ h => h) (Or.inl ⟨by rfl, ?_⟩) hHeld ?_
        rotate_left
        · intro w hSw
          (try dsimp only at hSw)
          go_simp
          try with_reducible rfl
        try simp only [Act.put, List.setIfInBounds_toArray, List.set_cons_zero, List.set_cons_succ]
        refine wpAnyH_take (i := 5) (oi := { dst := some 103, op := Op.load 135 (Operand.tmp 6), type := 135, pos := "ref.go:109", after := #[], guard := none }) (v := ?_) rfl (by kernel_rfl) (by kernel_rfl) (by kernel_rfl) (fun _ _ _ h => h) (Or.inl ⟨by rfl, ?_⟩) hHeld ?_
        rotate_left
        · intro w hSw
          (try dsimp only at hSw)
          go_simp
          try with_reducible rfl
        try simp only [Act.put, List.setIfInBounds_toArray, List.set_cons_zero, List.set_cons_succ]
        refine wpAnyH_ready (rs := [4]) (by kernel_rfl) (by simp) ?_
        refine AllReadyH.cons (o := { dst := some 102, op := Op.load 136 (Operand.tmp 101), type := 136, pos := "ref.go:109", after := #[{ on := 3, ground := Ground.data }], guard := none }) rfl (fun Kq hKq => ?_) AllReadyH.nil
        go_simp
        try go_simp
        refine hKq.out _ _ (SK.out _ _ _ _ (by assumption)) (fun hHeld => ?_)
        clear hKq Kq
        try simp only [Act.put, List.setIfInBounds_toArray, List.set_cons_zero, List.set_cons_succ]
        refine wpAnyH_ready (rs := [6]) (by kernel_rfl) (by simp) ?_
        refine AllReadyH.cons (o := { dst := some 104, op := Op.call { callee := Callee.value (Operand.func 97), args := #[Operand.tmp 102, Operand.tmp 103], argTypes := #[136, 135] }, type := 136, pos := "ref.go:109", after := #[{ on := 4, ground := Ground.data }, { on := 5, ground := Ground.data }], guard := none }) rfl (fun Kq hKq => ?_) AllReadyH.nil
        go_simp
        go_at_call 97; (with_reducible refine (put_r (holeL ra k b') _ rfl HLE.out B1 d1 HXD.out.rb.cf (span ra, k) X K HX.out.symm HK.out.symm _ HXD.out.rb.f.sl).mono ?_); rintro e w9 ⟨A', c', L', rfl, hc9, hp9, hh9, hfr9, hb9⟩; have hx9 := HXD.out.below hb9; have z9 := hx9.rb.r1; have f9 := hx9.rb.froz 1; have hn9 := hp9.len; have hs9 := hx9.setF hh9 hn9.symm hc9 (fun _ a0 ea0 => by have h1 := hfr9 a0 ea0; have h2 := BB.out; omega)
        try go_simp
        refine hKq.out _ _ (SK.out _ _ _ _ (by assumption)) (fun hHeld => ?_)
        clear hKq Kq
        try simp only [Act.put, List.setIfInBounds_toArray, List.set_cons_zero, List.set_cons_succ]
        refine wpAnyH_take (i := 7) (oi := { dst := some 105, op := Op.nilCheck (Operand.tmp 98), type := 0, pos := "ref.go:109", after := #[{ on := 0, ground := Ground.data }, { on := 0, ground := Ground.phase }, { on := 1, ground := Ground.phase }, { on := 2, ground := Ground.phase }, { on := 3, ground := Ground.phase }, { on := 4, ground := Ground.phase }, { on := 5, ground := Ground.phase }, { on := 6, ground := Ground.phase }], guard := none }) (v := ?_) rfl (by kernel_rfl) (by kernel_rfl) (by kernel_rfl) (fun _ _ _ h => h) (Or.inl ⟨by rfl, ?_⟩) hHeld ?_
        rotate_left
        · intro w hSw
          (try dsimp only at hSw)
          go_simp
          try with_reducible rfl
        try simp only [Act.put, List.setIfInBounds_toArray, List.set_cons_zero, List.set_cons_succ]
        refine wpAnyH_take (i := 8) (oi := { dst := some 106, op := Op.fieldAddr 138 (Operand.tmp 105) 1, type := 0, pos := "ref.go:109", after := #[{ on := 7, ground := Ground.data }, { on := 0, ground := Ground.phase }, { on := 1, ground := Ground.phase }, { on := 2, ground := Ground.phase }, { on := 3, ground := Ground.phase }, { on := 4, ground := Ground.phase }, { on := 5, ground := Ground.phase }, { on := 6, ground := Ground.phase }], guard := none }) (v := ?_) rfl (by kernel_rfl) (by kernel_rfl) (by kernel_rfl) (fun _ _ _ h => h) (Or.inl ⟨by rfl, ?_⟩) hHeld ?_
        rotate_left
        · intro w hSw
          (try dsimp only at hSw)
          go_simp
          try with_reducible rfl
        try simp only [Act.put, List.setIfInBounds_toArray, List.set_cons_zero, List.set_cons_succ]
        refine wpAnyH_ready (rs := [9]) (by kernel_rfl) (by simp) ?_
        refine AllReadyH.cons (o := { dst := none, op := Op.store 136 (Operand.tmp 106) (Operand.tmp 104), type := 0, pos := "ref.go:109", after := #[{ on := 8, ground := Ground.data }, { on := 6, ground := Ground.data }, { on := 6, ground := Ground.chain }, { on := 0, ground := Ground.phase }, { on := 1, ground := Ground.phase }, { on := 2, ground := Ground.phase }, { on := 3, ground := Ground.phase }, { on := 4, ground := Ground.phase }, { on := 5, ground := Ground.phase }, { on := 6, ground := Ground.phase }], guard := none }) rfl (fun Kq hKq => ?_) AllReadyH.nil
        go_simp
        try go_simp
        refine hKq.out _ _ (SK.out _ _ _ _ (by assumption)) (fun hHeld => ?_)
        clear hKq Kq
        try simp only [Act.put, List.setIfInBounds_toArray, List.set_cons_zero, List.set_cons_succ]
        refine wpAnyH_done (by kernel_rfl) ?_ _
        rw [put_hole hp9, ← HEND.out] at hs9
        have HX10 := Lib.hid hs9
        clear hp9 hn9 hh9 hfr9 hb9 hx9 hc9 hs9 z9 f9 yd
        go_wp2
        go_ret
        exact ⟨0, rfl, M, HGR.out, ⟨_, _, _, _, HX10.out.rb⟩, HX10.out.gr⟩
end Go.Proofs.YtflkoabgkgegjaaGreatDoor
