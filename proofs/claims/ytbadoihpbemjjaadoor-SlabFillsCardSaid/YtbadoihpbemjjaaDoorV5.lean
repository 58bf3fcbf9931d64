/- The walk of SlabFills. Condition: the table of TrailingZeros64. -/
import Derived.Test.YtbadoihpbemjjaaDoorV4
namespace Go.Proofs.YtbadoihpbemjjaaDoor
open Go.RowKit Go.Maps
variable {W w w' : World} {K : List (Nat × Obj)} {c b size M top n : Nat} {l : List Tl} {P : List Pg}

theorem SGx.sub {gm gw : Nat → Nat} {mu : Nat} {A : Option Addr} {cap : Nat} {K' : List (Nat × Obj)} (h : SGx W K w c b size M top gm gw mu n l A cap P) (hk : ∀ x ∈ K', x ∈ K) : SGx W K' w c b size M top gm gw mu n l A cap P :=
  ⟨h.bg, h.row, h.own, h.maps, h.gws, h.rise, h.cnew, h.pnew, h.sep, fun x hx => h.kept x (hk x hx), fun x hx => h.knc x (hk x hx), fun x hx => h.kgw x (hk x hx), fun x hx => h.kpg x (hk x hx), fun x hx => h.kA x (hk x hx)⟩
/-- a row of ints is held, and found again -/
theorem SG.holdO (h : SG W K w c b size M top n l P) {base m cap : Nat} {A : Option Addr} {xs : List Value} (ho : w.ownsRow base 3 1 (.slice A m cap) m xs) : ∃ K', SG W K' w c b size M top n l P ∧ ∀ w2 n2 l2 P2, SG W K' w2 c b size M top n2 l2 P2 → SG W K w2 c b size M top n2 l2 P2 ∧ w2.ownsRow base 3 1 (.slice A m cap) m xs := by
  rcases ho.2 with h0 | ⟨g, cap2, cur, hv, hg, hh, r⟩
  · exact ⟨K, h, fun w2 n2 l2 P2 h2 => ⟨h2, ho.1, .inl h0⟩⟩
  · obtain ⟨gm, gw, mu, A', cap', h⟩ := h
    refine ⟨(g, .cells cur 3 (0, 0)) :: K, ⟨gm, gw, mu, A', cap', h.hold hh (by decide) (by decide) (by decide)⟩, fun w2 n2 l2 P2 h2 => ?_⟩
    obtain ⟨gm2, gw2, mu2, A2, cap3, h2⟩ := h2
    exact ⟨⟨gm2, gw2, mu2, A2, cap3, h2.sub fun x hx => List.mem_cons_of_mem _ hx⟩, ho.1, .inr ⟨g, cap2, cur, hv, hg, h2.kept _ List.mem_cons_self, r⟩⟩
/-- a row of ints turns -/
theorem SG.foreign (h : SG W [] w c b size M top n l P) {m k cap : Nat} {A : Option Addr} {xs : List Value} (ho : w.ownsRow W.heap.size 3 1 (.slice A m cap) k xs) (hg : w.grownBy w' (Value.slice A m cap).ownBlock) : SG W [] w' c b size M top n l P := by
  cases e : (Value.slice A m cap).ownBlock with
  | none =>
    rw [e] at hg
    exact h.below ((Below.refl _ w).grown hg (Nat.le_refl _) (fun k hk => by cases hk))
  | some g =>
    rw [e] at hg
    obtain ⟨cs, hc⟩ := ownsRow_block ho e.symm
    have hlo := (ho.lt g e).1
    obtain ⟨gm, gw, mu, A', cap', h⟩ := h
    have st : ∀ {x : Nat} {ds : Array Value} {t : TypeId}, w.heap[x]? = some (.cells ds t (0, 0)) → t ≠ 3 → w'.heap[x]? = w.heap[x]? := fun hd ht => hg.block _ (blt hd) (fun e2 => two_types hd hc ht (by injection e2))
    refine ⟨gm, gw, mu, A', cap', h.bg.other hg hlo ⟨⟨cs, _, hc, by decide, by decide⟩, h.bg.not_gw hc (by decide)⟩, (st h.row (by decide)).trans h.row, ownsRow_keep h.own fun g2 hg2 => ?_, fun p hp => ?_, h.gws, h.rise, h.cnew, h.pnew, h.sep, fun x hx => absurd hx List.not_mem_nil, fun x hx => absurd hx List.not_mem_nil, fun x hx => absurd hx List.not_mem_nil, fun x hx => absurd hx List.not_mem_nil, fun x hx => absurd hx List.not_mem_nil⟩
    · obtain ⟨ds, hd⟩ := h.rowne hg2
      exact st hd (by decide)
    · have mp := h.maps p hp
      exact ⟨(st mp.1 (by decide)).trans mp.1, (st mp.2.1 (by decide)).trans mp.2.1, mp.2.2⟩
def comeC (M size t : Nat) : List Int := (List.range t).map (atC M size)
theorem comeC_succ (M size t : Nat) : comeC M size (t + 1) = comeC M size t ++ [atC M size t] := by simp [comeC, List.range_succ]
theorem comeC_length (M size t : Nat) : (comeC M size t).length = t := by simp [comeC]
set_option maxRecDepth 100000 in
set_option maxHeartbeats 3200000 in
theorem fills_any (s n : Nat) (hs : s ≤ 255) (hn : n ≤ 255) (w : World) (hT : TabZ w) : Calls Tryd.prog 5 #[.int .u8 (s : Int), .int .u8 (n : Int)] w fun e w' => e = .returned (.bool true) ∧ Below w.heap.size w w' := by
  obtain ⟨i0, hi0, hz0, hz1, hz2⟩ := info_parts info_int
  have HT := Lib.hid hT
  obtain ⟨S, hS⟩ : ∃ S : Int, (s : Int) = S := ⟨_, rfl⟩
  obtain ⟨R, Q, Z, size, z1, z2, z3, z4, hZ, g1, g2, g3, -⟩ := u8_size s hs S hS
  obtain ⟨M, hM⟩ : ∃ M, M = 960 / size := ⟨_, rfl⟩
  obtain ⟨m1, m2⟩ := size_many g1 g2 hM
  have HZ := Lib.hid hZ
  have HS : Hid (16 ≤ size ∧ size ≤ 512 ∧ (size : Int).tmod 16 = 0 ∧ M = 960 / size ∧ 0 < M ∧ M ≤ 60 ∧ n ≤ 255) := Lib.hid ⟨g1, g2, g3, hM, m1, m2, hn⟩
  obtain ⟨Nn, hNn⟩ : ∃ Nn : Int, (n : Int) = Nn := ⟨_, rfl⟩
  obtain ⟨Mm, hMm⟩ : ∃ Mm : Int, (M : Int) = Mm := ⟨_, rfl⟩
  have zN : IntKind.i64.wrap Nn = Nn := by rw [IntKind.wrap_i64]; omega
  have zM : wrap64 (Int.tdiv 960 Z) = Mm := by
    have e : Int.tdiv 960 Z = ((960 / size : Nat) : Int) := by
      rw [hZ, Int.tdiv_eq_ediv_of_nonneg (by omega)]
      rfl
    rw [e, ← hM, hMm, wrap64]; omega
  have nZ : ¬ Z = 0 := by omega
  have nM : ¬ Mm = 0 := by omega
  have l1 : decide (Mm < 1) = false := decide_eq_false (by omega)
  have l2 : (Mm != Mm) = false := by simp
  have HNn := Lib.hid hNn
  have HMm := Lib.hid hMm
  rw [hS, hNn]
  clear hT hs hn hS hZ g1 g2 g3 hM m1 m2 hNn hMm
  go_enter Tryd.func5, Tryd.ntmps5
  go_wp2_with fail
  refine (alive_any _ HT.out).mono ?_
  rintro e w1 ⟨rfl, hb⟩
  have HB := Lib.hid hb
  have TW : Hid (TabZ w1) := Lib.hid (HT.out.below HT.out.lt hb)
  clear hb
  go_wp2_with fail
  refine (new_g 262144 8 262144 rfl (by decide) (by omega) (by omega) _ TW.out).mono ?_
  rintro e w2 ⟨b, gm, gw, mu, rfl, h2⟩
  have H2 := Lib.hid h2.rebase
  clear h2
  go_wp2_with fail
  refine (new_s 8 gm gw mu H2.out HS.out.1 HS.out.2.1 HS.out.2.2.1 M Z HZ.out).mono ?_
  rintro e w3 ⟨c, rfl, h3⟩
  have H3 := Lib.hid h3
  clear h3
  go_wp2_with fail
  refine (many_s H3.out HS.out.1 HS.out.2.2.2.1 Mm HMm.out.symm).mono ?_
  rintro e w' ⟨rfl, hw'⟩
  have hw2 := hw'.symm
  clear hw'
  subst hw2
  go_wp2_with fail
  refine (size_s H3.out Z HZ.out).mono ?_
  rintro e w' ⟨rfl, hw'⟩
  have hw2 := hw'.symm
  clear hw'
  subst hw2
  go_wp2_with fail
  go_loopw [8, 9] (fun v i wr => ∃ (t : Nat) (l : List Tl) (P : List Pg) (A : Option Addr) (cap : Nat), t ≤ n ∧ i = .int .i64 (t : Int) ∧ v = .slice A t cap ∧ SG w1 [] wr c b size M 8 t l P ∧ TK M t P ∧ TL P.length l ∧ wr.ownsRow w1.heap.size 3 1 (.slice A t cap) t (i64s (comeC M size t))) (fun _ i _ => n - (intOf i).toNat)
  case atStart => exact ⟨0, _, _, none, 0, Nat.zero_le _, rfl, rfl, H3.out, tk_start M HS.out.2.2.2.2.1, tl_start 8, World.ownsRow_nil _ _ _ _⟩
  case round =>
    obtain ⟨t, l, P, A, cap, ht, rfl, rfl, h, hkk, hll, ho⟩ := hrel
    have KK := Lib.hid hkk
    have LL := Lib.hid hll
    by_cases hlt : t < n
    · have i1 : (t : Int) < Nn := by have := HNn.out; omega
      have i0' : (0 : Int) ≤ (t : Int) := by omega
      have zk : IntKind.i64.wrap ((t : Int) + 1) = (t : Int) + 1 := by rw [IntKind.wrap_i64]; have := HS.out; omega
      have HK : Hid (t < n) := Lib.hid hlt
      obtain ⟨K4, hk4, hfind⟩ := h.holdO ho
      have HK4 := Lib.hid hk4
      have HFI := Lib.hid hfind
      clear h hkk hll hlt ht ho hk4 hfind
      go_wp2_with fail
      refine (take_tk HK4.out TW.out (by have := HS.out; have := HK.out; omega) HS.out.1 HS.out.2.1 HS.out.2.2.2.1 t KK.out LL.out).mono ?_
      rintro e w4 (⟨rfl, l', P', h4, k4, t4, _⟩ | ⟨rfl, hz, hall, h4⟩)
      rotate_left
      · exfalso
        have e1 := tl_full LL.out HK4.out.good hall
        have e2 := KK.out.len
        have e3 := Nat.div_add_mod t M
        rw [hz, Nat.add_zero] at e3
        have e4 := tk_len (M := M) (t := t) (d := t / M) (r := 0) HS.out.2.2.2.2.1 (by omega) HS.out.2.2.2.2.1
        rw [if_pos rfl] at e4
        have e5 := Nat.div_le_self t M
        have := HS.out
        have := HK.out
        have e6 : (2 : Nat) ^ 8 = 256 := by decide
        omega
      obtain ⟨X, hX⟩ : ∃ X : Int, atC M size t = X := ⟨_, rfl⟩
      rw [hX]
      have H4 := Lib.hid h4
      have K4' := Lib.hid k4
      have T4 := Lib.hid t4
      have LY4 := Lib.hid (tk_lay (top := 8) HS.out.2.2.2.2.1 k4 t4)
      have HUS := Lib.hid (tk_used (size := size) HS.out.2.2.2.2.1 k4)
      have HXX := Lib.hid hX
      obtain ⟨um, hum⟩ : ∃ um, um = P'.length := ⟨_, rfl⟩
      have hum2 : um = (t + M) / M := by rw [hum, k4.len]; congr 1; omega
      have zq0 : ((t : Int) + Mm).tdiv Mm = (um : Int) := by
        rw [← HMm.out, Int.tdiv_eq_ediv_of_nonneg (by omega), hum2]
        push_cast
        rfl
      have hub : um ≤ 1000 := by
        have := Nat.div_le_self (t + M) M
        have := HS.out
        have := HK.out
        omega
      have za : IntKind.i64.wrap ((t : Int) + Mm) = (t : Int) + Mm := by rw [IntKind.wrap_i64]; have := HS.out; have := HMm.out; have := HK.out; omega
      have zu : IntKind.i64.wrap (um : Int) = (um : Int) := by rw [IntKind.wrap_i64]; omega
      have l3 : ((um : Int) != (um : Int)) = false := by simp
      have HUM := Lib.hid hum
      clear h4 k4 t4 hum hum2 hX
      go_wp2_with fail
      have HS0 : Hid (0 < size) := Lib.hid (by have := HS.out; omega)
      have H4D := Lib.hid (H4.out.below (Below.refl _ _).drew)
      have HXW : Hid ((Lit.int .i64 X).wf = true) := Lib.hid (WalkArith.wf_i64 (by
        rw [← HXX.out, atC]
        have h1 := Nat.div_le_self t M
        have h2 : t % M * size ≤ 60 * 512 := Nat.mul_le_mul (Nat.le_of_lt (Nat.lt_of_lt_of_le (Nat.mod_lt _ HS.out.2.2.2.2.1) HS.out.2.2.2.2.2.1)) HS.out.2.1
        have := HK.out
        have := HS.out
        omega))
      have HXU : Hid (true = true ↔ X ∈ usedC M size P') := Lib.hid ⟨fun _ => by rw [HUS.out, ← HXX.out]; exact List.mem_map.2 ⟨t, List.mem_range.2 (Nat.lt_succ_self _), rfl⟩, fun _ => rfl⟩
      have hd := H4D.out
      go_region_held3 (fun _ => True) (first | (exact trivial)) (first | (go_at_call 19; (with_reducible refine (has_s (by assumption) LY4.out HS0.out HS.out.2.1 HS.out.2.2.2.1 X HXW.out true HXU.out).mono ?_); rintro e w5 ⟨rfl, h5⟩) | (go_at_call 14; (with_reducible refine (slabs_s (by assumption) LY4.out um HUM.out).mono ?_); rintro e w6 ⟨A6, k6, rfl, ho6, h6, hb6⟩))
      have H6 := Lib.hid h6
      clear h5 h6 ho6 hb6 hd
      obtain ⟨h7, ho7⟩ := HFI.out _ _ _ _ H6.out
      have H7 := Lib.hid h7
      have HO7 := Lib.hid ho7
      clear h7 ho7 l3 zq0 za hub zu
      go_wp2_with fail
      go_loopw [12] (fun x wr => ∃ j : Nat, j ≤ t ∧ x = .int .i64 (j : Int) ∧ wr = w6) (fun x _ => t - (intOf x).toNat)
      case atStart => exact ⟨0, Nat.zero_le _, rfl, rfl⟩
      case round =>
        obtain ⟨j, hj, rfl, hwr⟩ := hrel
        subst hwr
        by_cases hjt : j < t
        · obtain ⟨g, off, hA, hc⟩ := (ownsRow_sl HO7.out).int (l := comeC M size t) (k := j) (by rw [comeC_length]; exact hjt)
          obtain ⟨Y, hY⟩ : ∃ Y, (comeC M size t)[j]'(by rw [comeC_length]; exact hjt) = Y := ⟨_, rfl⟩
          rw [hY] at hc
          have j1 : (j : Int) < (t : Int) := by omega
          have j0 : (0 : Int) ≤ (j : Int) := by omega
          have zj : IntKind.i64.wrap ((j : Int) + 1) = (j : Int) + 1 := by rw [IntKind.wrap_i64]; have := HS.out; have := HK.out; omega
          have q : (Y == X) = false := by
            simp only [beq_eq_false_iff_ne, ne_eq]
            intro e
            rw [← hY, ← HXX.out] at e
            simp only [comeC, List.getElem_map, List.getElem_range] at e
            have := atC_inj HS.out.2.2.2.1 HS0.out HS.out.2.2.2.2.1 e
            omega
          subst hA
          clear hY
          go_wp2
          go_roundw
          case rel => exact ⟨j + 1, by omega, by go_num, by first | rfl | trivial⟩
          case measure => (try simp [intOf]) <;> omega
        · have j1 : ¬ ((j : Int) < (t : Int)) := by omega
          clear hjt hj
          have hcat : i64s (comeC M size t) ++ i64s [X] = i64s (comeC M size (t + 1)) := by
            rw [comeC_succ, HXX.out, i64s, i64s, i64s, List.map_append]
          have HCAT := Lib.hid hcat
          clear hcat
          have HOA := Lib.hid (ownsRow_below HO7.out ((Below.refl _ wr).alloc (Nat.le_refl _) (.cells #[.int .i64 X] 3)))
          have HBA : Hid (w1.heap.size ≤ (wr.alloc (.cells #[.int .i64 X] 3)).heap.size) := Lib.hid (by rw [World.size_alloc]; have := H7.out.way.size; omega)
          go_wp2_with (first | (at_builtin; refine wpList_app _ rfl (.tmp 76) (.tmp 78) 30 rfl w1.heap.size 3 i0 _ 1 8 Tryd.underlying30 hi0 hz0 hz1 hz2 rfl (by omega) A t cap _ rfl HOA.out (some ⟨wr.heap.size, 0, none⟩) 1 1 (i64s [X]) rfl (by rfl) (SlR_new _ _ _) (i64s_one _) (by have := HS.out; have := HK.out; unfold maxLen; omega) (by have := HS.out; have := HK.out; omega) HBA.out ?_; intro A8 k8 w8 hown8 hg8 hb8))
          rw [HCAT.out] at hown8
          have H8 := Lib.hid ((H7.out.below ((Below.refl _ wr).alloc (Nat.le_refl _) _)).foreign HOA.out hg8)
          have HO8 := Lib.hid hown8
          clear hown8 hg8 hb8
          go_wp2
          go_roundw
          case rel => exact ⟨_, _, _, ⟨t + 1, HK.out, rfl, l', P', A8, k8, rfl, H8.out, K4'.out, T4.out, HO8.out⟩, rfl, rfl, by go_num⟩
          case measure => have := HK.out; (try simp [intOf]) <;> omega
    · have i1 : ¬ ((t : Int) < Nn) := by have := HNn.out; omega
      have htn : t = n := by omega
      subst htn
      have LY := Lib.hid (tk_lay (top := 8) HS.out.2.2.2.2.1 hkk hll)
      obtain ⟨um, hum⟩ : ∃ um, um = (usedC M size P).length := ⟨_, rfl⟩
      obtain ⟨pm, hpm⟩ : ∃ pm, pm = P.length := ⟨_, rfl⟩
      have hut : um = t := by rw [hum, tk_used HS.out.2.2.2.2.1 hkk]; simp
      have hleft := tl_left hll h.good
      have hp8 : (2 : Nat) ^ 8 = 256 := by decide
      rw [hp8, ← hpm] at hleft
      obtain ⟨Lf, hLf⟩ : ∃ Lf : Int, Lf = ((leftB (blks true 0 l) : Nat) : Int) := ⟨_, rfl⟩
      have q1 : ((um : Int) == Nn) = true := by simp only [beq_iff_eq]; have := HNn.out; omega
      have zp : IntKind.i64.wrap (1024 * (pm : Int)) = 1024 * (pm : Int) := by rw [IntKind.wrap_i64]; omega
      have zs : IntKind.i64.wrap (262144 - 1024 * (pm : Int)) = 262144 - 1024 * (pm : Int) := by rw [IntKind.wrap_i64]; omega
      have q2 : (Lf == 262144 - 1024 * (pm : Int)) = true := by simp only [beq_iff_eq]; omega
      have H := Lib.hid h
      have HUM := Lib.hid hum
      have HPM := Lib.hid hpm
      have HLF := Lib.hid hLf
      clear h hkk hll ho hum hpm hut hleft hp8 hLf hlt ht
      go_wp2_with fail
      refine (used_s H.out TW.out LY.out HS.out.2.1 HS.out.2.2.2.2.2.1 um HUM.out).mono ?_
      rintro e w5 ⟨A5, c5, rfl, _, h5, _⟩
      have H5 := Lib.hid h5
      clear h5
      go_wp2_with fail
      refine (left_s H5.out TW.out Lf HLF.out).mono ?_
      rintro e w6 ⟨rfl, h6⟩
      have H6 := Lib.hid h6
      clear h6
      go_wp2_with fail
      refine (slabs_s H6.out LY.out pm HPM.out).mono ?_
      rintro e w7 ⟨A7, c7, rfl, _, h7, _⟩
      have HW := Lib.hid (HB.out.trans (h7.way.mono HB.out.size))
      clear h7
      go_wp2
      go_ret
      exact ⟨rfl, HW.out⟩
end Go.Proofs.YtbadoihpbemjjaaDoor
