/- The walk of SlabBack. Condition: the table of TrailingZeros64. -/
import Derived.Test.YtbadoihpbemjjaaDoorV3
namespace Go.Proofs.YtbadoihpbemjjaaDoor
open Go.RowKit Go.Maps
variable {W w w' : World} {K : List (Nat × Obj)} {c b size M top n : Nat} {l : List Tl} {P : List Pg}

theorem SGx.hold {gm gw : Nat → Nat} {mu : Nat} {A : Option Addr} {cap : Nat} (h : SGx W K w c b size M top gm gw mu n l A cap P) {g : Nat} {cs : Array Value} {t : TypeId} (hg : w.heap[g]? = some (.cells cs t (0, 0))) (h1 : t ≠ 95) (h2 : t ≠ 73) (h3 : t ≠ 71) : SGx W ((g, .cells cs t (0, 0)) :: K) w c b size M top gm gw mu n l A cap P :=
  ⟨h.bg, h.row, h.own, h.maps, h.gws, h.rise, h.cnew, h.pnew, h.sep, fun x hx => by
    rcases List.mem_cons.1 hx with rfl | hx
    · exact hg
    · exact h.kept x hx, fun x hx => by
    rcases List.mem_cons.1 hx with rfl | hx
    · exact ⟨two_types hg h.row h3, h.bg.not_mu hg⟩
    · exact h.knc x hx, fun x hx => by
    rcases List.mem_cons.1 hx with rfl | hx
    · exact h.bg.not_gw hg h1
    · exact h.kgw x hx, fun x hx p hp => by
    rcases List.mem_cons.1 hx with rfl | hx
    · exact two_types hg (h.maps p hp).2.1 h1
    · exact h.kpg x hx p hp, fun x hx e => by
    rcases List.mem_cons.1 hx with rfl | hx
    · obtain ⟨ds, hd⟩ := h.rowne e
      exact two_types hg hd h2 rfl
    · exact h.kA x hx e⟩
/-- a slice of ints is held -/
theorem SG.hold (h : SG W K w c b size M top n l P) {base m cap : Nat} {A : Option Addr} {xs : List Value} (ho : w.ownsRow base 3 1 (.slice A m cap) m xs) : ∃ K', SG W K' w c b size M top n l P ∧ ∀ w2 n2 l2 P2, SG W K' w2 c b size M top n2 l2 P2 → SlR w2 A xs := by
  rcases ho.2 with ⟨hv, h0⟩ | ⟨g, cap2, cur, hv, hg, hh, hle, hcap, hs, ht⟩
  · refine ⟨K, h, fun w2 n2 l2 P2 _ => ?_⟩
    have : xs = [] := List.length_eq_zero_iff.1 (by rw [ho.1, h0, Nat.zero_mul])
    rw [this]
    exact SlR.nil _ _
  · injection hv with e1 _ e3
    subst e1 e3
    obtain ⟨gm, gw, mu, A', cap', h⟩ := h
    refine ⟨(g, .cells cur 3 (0, 0)) :: K, ⟨gm, gw, mu, A', cap', h.hold hh (by decide) (by decide) (by decide)⟩, fun w2 n2 l2 P2 h2 => ?_⟩
    obtain ⟨gm2, gw2, mu2, A2, cap3, h2⟩ := h2
    have hk := h2.kept _ List.mem_cons_self
    intro _
    refine ⟨g, 0, rfl, blt hk, fun j u hu => ?_⟩
    rw [cell_of_row _ _ _ _ _ _ hk, Nat.zero_add]
    have hj := (List.getElem?_eq_some_iff.1 hu).1
    rw [← ht, List.getElem?_take] at hu
    split at hu
    · rw [← hu]; simp
    · cases hu
theorem mod_one {i k f m : Nat} (hi : i < m) (hk : k < m) (h : (i + f) % m = (k + f) % m) : i = k := by
  have key : ∀ a b : Nat, a ≤ b → b < m → (b + f) % m = (a + f) % m → b = a := fun a b hab hb hh => by
    have h1 := Nat.sub_mod_eq_zero_of_mod_eq hh
    rw [show b + f - (a + f) = b - a by omega, Nat.mod_eq_of_lt (by omega)] at h1
    omega
  by_cases q : k ≤ i
  · exact key k i q hi h
  · exact (key i k (by omega) hk h.symm).symm
theorem mod_all {m : Nat} (f : Nat) {j : Nat} (hj : j < m) : ∃ k, k < m ∧ (k + f) % m = j := by
  have hfm := Nat.mod_lt f (show 0 < m by omega)
  refine ⟨(j + (m - f % m)) % m, Nat.mod_lt _ (by omega), ?_⟩
  rw [Nat.mod_add_mod]
  have hd := Nat.div_add_mod f m
  have e3 : j + (m - f % m) + f = j + m * (f / m + 1) := by rw [Nat.mul_add]; omega
  rw [e3, Nat.add_mul_mod_self_left, Nat.mod_eq_of_lt hj]
/-- the used places that are left, where from one on round about so many are given back -/
def LeftS (M size t f i : Nat) (P : List Pg) : Prop := ∀ y, y ∈ usedC M size P ↔ ∃ k, i ≤ k ∧ k < t ∧ y = atC M size ((k + f) % t)
theorem lefts_start {M size t : Nat} (f : Nat) {P : List Pg} (h : usedC M size P = (List.range t).map (atC M size)) : LeftS M size t f 0 P := fun y => by
  rw [h, List.mem_map]
  constructor
  · rintro ⟨j, hj, rfl⟩
    obtain ⟨k, hk, e⟩ := mod_all f (List.mem_range.1 hj)
    exact ⟨k, Nat.zero_le _, hk, by rw [e]⟩
  · rintro ⟨k, _, hk, rfl⟩
    exact ⟨_, List.mem_range.2 (Nat.mod_lt _ (by omega)), rfl⟩
theorem lefts_step {M size t f i : Nat} {P P' : List Pg} (hM : M = 960 / size) (hs : 0 < size) (h0 : 0 < M) (h : LeftS M size t f i P) (hi : i < t) (h' : ∀ y, y ∈ usedC M size P' ↔ y ∈ usedC M size P ∧ y ≠ atC M size ((i + f) % t)) : LeftS M size t f (i + 1) P' := fun y => by
  rw [h' y, h y]
  constructor
  · rintro ⟨⟨k, h1, h2, rfl⟩, h3⟩
    have : k ≠ i := fun e => h3 (by rw [e])
    exact ⟨k, by omega, h2, rfl⟩
  · rintro ⟨k, h1, h2, rfl⟩
    refine ⟨⟨k, by omega, h2, rfl⟩, fun e => ?_⟩
    have := mod_one h2 hi (atC_inj hM hs h0 e)
    omega
theorem u8_size (s : Nat) (hs : s ≤ 255) (S : Int) (hS : (s : Int) = S) : ∃ (R Q Z : Int) (size : Nat), IntKind.i64.wrap S = S ∧ S.tmod 32 = R ∧ IntKind.i64.wrap (16 * R) = Q ∧ IntKind.i64.wrap (16 + Q) = Z ∧ Z = (size : Int) ∧ 16 ≤ size ∧ size ≤ 512 ∧ (size : Int).tmod 16 = 0 ∧ size = 16 + 16 * (s % 32) := by
  refine ⟨((s % 32 : Nat) : Int), ((16 * (s % 32) : Nat) : Int), ((16 + 16 * (s % 32) : Nat) : Int), 16 + 16 * (s % 32), ?_, ?_, ?_, ?_, rfl, by omega, by omega, ?_, rfl⟩
  · rw [IntKind.wrap_i64]; omega
  · rw [← hS, Int.tmod_eq_emod_of_nonneg (by omega)]; rfl
  · rw [IntKind.wrap_i64]; omega
  · rw [IntKind.wrap_i64]; omega
  · rw [Int.tmod_eq_emod_of_nonneg (by omega)]; omega
set_option maxRecDepth 100000 in
set_option maxHeartbeats 3200000 in
theorem back_any (s n f : Nat) (hs : s ≤ 255) (hn : n ≤ 255) (hf : f ≤ 255) (w : World) (hT : TabZ w) : Calls Tryd.prog 3 #[.int .u8 (s : Int), .int .u8 (n : Int), .int .u8 (f : Int)] w fun e w' => e = .returned (.bool true) ∧ Below w.heap.size w w' := by
  have HT := Lib.hid hT
  obtain ⟨S, hS⟩ : ∃ S : Int, (s : Int) = S := ⟨_, rfl⟩
  obtain ⟨R, Q, Z, size, z1, z2, z3, z4, hZ, g1, g2, g3, _⟩ := u8_size s hs S hS
  obtain ⟨M, hM⟩ : ∃ M, M = 960 / size := ⟨_, rfl⟩
  obtain ⟨m1, m2⟩ := size_many g1 g2 hM
  have HZ := Lib.hid hZ
  have HS : Hid (16 ≤ size ∧ size ≤ 512 ∧ (size : Int).tmod 16 = 0 ∧ M = 960 / size ∧ 0 < M ∧ M ≤ 60 ∧ n ≤ 255 ∧ f ≤ 255) := Lib.hid ⟨g1, g2, g3, hM, m1, m2, hn, hf⟩
  obtain ⟨Nn, hNn⟩ : ∃ Nn : Int, (n : Int) = Nn := ⟨_, rfl⟩
  obtain ⟨Fx, hFx⟩ : ∃ Fx : Int, (f : Int) = Fx := ⟨_, rfl⟩
  have zN : IntKind.i64.wrap Nn = Nn := by rw [IntKind.wrap_i64]; omega
  have zF : IntKind.i64.wrap Fx = Fx := by rw [IntKind.wrap_i64]; omega
  have HNn := Lib.hid hNn
  have HFx := Lib.hid hFx
  rw [hS, hNn, hFx]
  clear hT hs hn hf hS hZ g1 g2 g3 hM m1 m2 hNn hFx
  go_enter Tryd.func3, Tryd.ntmps3
  go_wp2_with fail
  refine (alive_any _ HT.out).mono ?_
  rintro e w1 ⟨rfl, hb⟩
  have HB := Lib.hid hb
  have TW : Hid (TabZ w1) := Lib.hid (HT.out.below HT.out.lt hb)
  clear hb
  go_wp2_with fail
  refine (new_g 65536 6 65536 rfl (by decide) (by omega) (by omega) _ TW.out).mono ?_
  rintro e w2 ⟨b, gm, gw, mu, rfl, h2⟩
  have H2 := Lib.hid h2.rebase
  clear h2
  go_wp2_with fail
  refine (new_s 6 gm gw mu H2.out HS.out.1 HS.out.2.1 HS.out.2.2.1 M Z HZ.out).mono ?_
  rintro e w3 ⟨c, rfl, h3⟩
  have H3 := Lib.hid h3
  clear h3
  go_wp2_with fail
  go_loopw [9] (fun i wr => ∃ (k t : Nat) (l : List Tl) (P : List Pg), k ≤ n ∧ i = .int .i64 (k : Int) ∧ SG w1 [] wr c b size M 6 k l P ∧ TK M t P ∧ TL P.length l ∧ (t = k ∨ t ≤ k ∧ t % M = 0 ∧ ∀ x ∈ l, x.2 = false)) (fun i _ => n - (intOf i).toNat)
  case atStart => exact ⟨0, 0, _, _, Nat.zero_le _, rfl, H3.out, tk_start M HS.out.2.2.2.2.1, tl_start 6, .inl rfl⟩
  case round =>
    obtain ⟨k, t, l, P, hk, rfl, h, hkk, hll, htk⟩ := hrel
    have H := Lib.hid h
    have KK := Lib.hid hkk
    have LL := Lib.hid hll
    have HTK := Lib.hid htk
    have HUS := Lib.hid (tk_used (size := size) HS.out.2.2.2.2.1 hkk)
    have HLY := Lib.hid (tk_lay (top := 6) HS.out.2.2.2.2.1 hkk hll)
    by_cases hlt : k < n
    · have i1 : (k : Int) < Nn := by have := HNn.out; omega
      have i0 : (0 : Int) ≤ (k : Int) := by omega
      have zk : IntKind.i64.wrap ((k : Int) + 1) = (k : Int) + 1 := by rw [IntKind.wrap_i64]; have := HS.out; omega
      have HK : Hid (k < n) := Lib.hid hlt
      clear h hkk hll htk hlt hk
      go_wp2_with fail
      refine (take_tk H.out TW.out (by have := HS.out; have := HK.out; omega) HS.out.1 HS.out.2.1 HS.out.2.2.2.1 t KK.out LL.out).mono ?_
      rintro e w4 (⟨rfl, l', P', h4, k4, t4, hno⟩ | ⟨rfl, hz, hall, h4⟩)
      · have htk2 : t = k := by
          rcases HTK.out with h | ⟨_, h2, h3⟩
          · exact h
          · exact absurd ⟨h2, h3⟩ hno
        subst htk2
        have H4 := Lib.hid h4
        have K4 := Lib.hid k4
        have T4 := Lib.hid t4
        have LY4 := Lib.hid (tk_lay (top := 6) HS.out.2.2.2.2.1 k4 t4)
        obtain ⟨um, hum⟩ : ∃ um, um = (usedC M size P').length := ⟨_, rfl⟩
        have j1 : ((um : Int) == (t : Int) + 1) = true := by
          rw [tk_used HS.out.2.2.2.2.1 k4] at hum
          simp only [List.length_map, List.length_range] at hum
          simp only [beq_iff_eq]; omega
        have HUM := Lib.hid hum
        clear h4 k4 t4 hno hum
        go_wp2_with fail
        refine (used_s H4.out TW.out LY4.out HS.out.2.1 HS.out.2.2.2.2.2.1 um HUM.out).mono ?_
        rintro e w5 ⟨A5, c5, rfl, _, h5, _⟩
        have H5 := Lib.hid h5
        clear h5
        go_wp2
        go_roundw
        case rel => exact ⟨t + 1, t + 1, l', P', HK.out, by go_num, H5.out, K4.out, T4.out, .inl rfl⟩
        case measure => have := HK.out; (try simp [intOf]) <;> omega
      · have H4 := Lib.hid h4
        obtain ⟨um, hum⟩ : ∃ um, um = (usedC M size P).length := ⟨_, rfl⟩
        have htk3 : t ≤ k := by rcases HTK.out with h | h <;> omega
        have j1 : ((um : Int) == (k : Int) + 1) = false := by
          rw [HUS.out] at hum
          simp only [List.length_map, List.length_range] at hum
          simp only [beq_eq_false_iff_ne, ne_eq]; omega
        have HUM := Lib.hid hum
        have HZ2 : Hid (t ≤ k + 1 ∧ t % M = 0 ∧ ∀ x ∈ l, x.2 = false) := Lib.hid ⟨by omega, hz, hall⟩
        clear h4 hz hall hum htk3
        go_wp2_with fail
        refine (used_s H4.out TW.out HLY.out HS.out.2.1 HS.out.2.2.2.2.2.1 um HUM.out).mono ?_
        rintro e w5 ⟨A5, c5, rfl, _, h5, _⟩
        have H5 := Lib.hid h5
        clear h5
        go_wp2
        go_roundw
        case rel => exact ⟨k + 1, t, l, P, HK.out, by go_num, H5.out, KK.out, LL.out, .inr HZ2.out⟩
        case measure => have := HK.out; (try simp [intOf]) <;> omega
    · have i1 : ¬ ((k : Int) < Nn) := by have := HNn.out; omega
      have htn : t ≤ 255 := by have := HS.out; rcases HTK.out with h | h <;> omega
      have HTN := Lib.hid htn
      obtain ⟨um, hum⟩ : ∃ um, um = (usedC M size P).length := ⟨_, rfl⟩
      have hut : um = t := by rw [hum, HUS.out]; simp
      have HUM := Lib.hid hum
      have HUT := Lib.hid hut
      have HUP := Lib.hid (tk_up hkk hll)
      clear h hkk hll htk hlt hk hum hut htn
      go_wp2_with fail
      refine (used_s H.out TW.out HLY.out HS.out.2.1 HS.out.2.2.2.2.2.1 um HUM.out).mono ?_
      rintro e w5 ⟨A5, c5, rfl, ho5, h5, _⟩
      obtain ⟨K5, hk5, hsl5⟩ := h5.hold ho5
      have H5 := Lib.hid hk5
      have SL5 := Lib.hid hsl5
      have HLS := Lib.hid (lefts_start f HUS.out)
      clear h5 ho5 hk5 hsl5
      go_wp2_with fail
      go_loopw [13] (fun x wr => ∃ (j : Nat) (l2 : List Tl) (P2 : List Pg), j ≤ um ∧ x = .int .i64 (j : Int) ∧ SG w1 K5 wr c b size M 6 k l2 P2 ∧ Lay 6 M l2 P2 ∧ UP l2 P2 ∧ LeftS M size t f j P2) (fun x _ => um - (intOf x).toNat)
      case atStart => exact ⟨0, l, P, Nat.zero_le _, rfl, H5.out, HLY.out, HUP.out, HLS.out⟩
      case round =>
        obtain ⟨j, l2, P2, hj, rfl, h6, hl6, hu6, hs6⟩ := hrel
        have H6 := Lib.hid h6
        have L6 := Lib.hid hl6
        have U6 := Lib.hid hu6
        have S6 := Lib.hid hs6
        by_cases hlt : j < um
        · have j1 : (j : Int) < (um : Int) := by omega
          have j0 : (0 : Int) ≤ (j : Int) := by omega
          have zj : IntKind.i64.wrap ((j : Int) + 1) = (j : Int) + 1 := by rw [IntKind.wrap_i64]; have := HTN.out; have := HUT.out; omega
          have zf : IntKind.i64.wrap ((j : Int) + Fx) = (j : Int) + Fx := by rw [IntKind.wrap_i64]; have := HTN.out; have := HUT.out; have := HFx.out; have := HS.out; omega
          obtain ⟨p, hp⟩ : ∃ p, (j + f) % t = p := ⟨_, rfl⟩
          have hut := HUT.out
          have hpt : p < t := by rw [← hp]; exact Nat.mod_lt _ (by omega)
          have zm : ((j : Int) + Fx).tmod (um : Int) = (p : Int) := by
            rw [← HFx.out, hut, ← hp, Int.tmod_eq_emod_of_nonneg (by omega)]
            rfl
          have n0 : ¬ ((um : Int) = 0) := by omega
          have p0 : (0 : Int) ≤ (p : Int) := by omega
          have p1 : (p : Int) < (um : Int) := by omega
          obtain ⟨X, hX⟩ : ∃ X, atC M size p = X := ⟨_, rfl⟩
          have hsl := SL5.out _ _ _ _ h6
          obtain ⟨g, off, hA, hc⟩ := hsl.int (l := usedC M size P) (k := p) (by rw [HUS.out]; simpa using hpt)
          have hget : (usedC M size P)[p]'(by rw [HUS.out]; simpa using hpt) = X := by
            simp only [HUS.out, List.getElem_map, List.getElem_range, hX]
          rw [hget] at hc
          have HXU : Hid (X ∈ usedC M size P2) := Lib.hid ((hs6 X).2 ⟨j, Nat.le_refl _, by omega, by rw [hp, hX]⟩)
          have HPX : Hid ((j + f) % t = p ∧ atC M size p = X ∧ j < t) := Lib.hid ⟨hp, hX, by omega⟩
          have HJ := Lib.hid hlt
          subst hA
          clear h6 hl6 hu6 hs6 hlt hp hut hpt hX hsl hget hj
          go_wp2_with fail
          refine (giveyes_s H6.out L6.out (by have := HS.out; omega) HS.out.2.1 HS.out.2.2.2.1 X HXU.out).mono ?_
          rintro e w7 ⟨rfl, l7, P7, h7, hl7, hu7, hc7⟩
          have H7 := Lib.hid h7
          have L7 := Lib.hid hl7
          have U7 := Lib.hid (up_give U6.out H6.out.rise hc7)
          have S7 := Lib.hid (lefts_step HS.out.2.2.2.1 (by have := HS.out; omega) HS.out.2.2.2.2.1 S6.out HPX.out.2.2 (by rw [HPX.out.1, HPX.out.2.1]; exact hu7))
          clear h7 hl7 hu7 hc7
          go_wp2
          go_roundw
          case rel => exact ⟨j + 1, l7, P7, HJ.out, by go_num, H7.out, L7.out, U7.out, S7.out⟩
          case measure => have := HJ.out; (try simp [intOf]) <;> omega
        · have j1 : ¬ ((j : Int) < (um : Int)) := by omega
          have hP2 : P2 = [] := lay_empty (size := size) hl6 fun y hy => by
            obtain ⟨k2, e1, e2, _⟩ := (hs6 y).1 hy
            have := HUT.out
            omega
          subst hP2
          have hl2 := up_nil hu6 h6.good
          subst hl2
          clear h6 hl6 hu6 hs6 hlt hj
          go_wp2_with fail
          refine (free_s H6.out TW.out 1 rfl).mono ?_
          rintro e w8 ⟨A8, c8, rfl, h8, _⟩
          have H8 := Lib.hid h8
          clear h8
          go_wp2_with fail
          refine (alive_any _ (TW.out.below TW.out.lt H8.out.way)).mono ?_
          rintro e w9 ⟨rfl, h9⟩
          have H9 := Lib.hid (H8.out.below h9)
          clear h9
          go_wp2_with fail
          refine (used_s H9.out TW.out (lay_nil _ _ _) HS.out.2.1 HS.out.2.2.2.2.2.1 0 rfl).mono ?_
          rintro e w10 ⟨A10, c10, rfl, _, h10, _⟩
          have H10 := Lib.hid h10
          clear h10
          go_wp2_with fail
          refine (slabs_s H10.out (lay_nil _ _ _) 0 rfl).mono ?_
          rintro e w11 ⟨A11, c11, rfl, _, h11, _⟩
          have H11 := Lib.hid h11
          clear h11
          go_wp2_with fail
          refine (left_s H11.out TW.out 65536 (by decide)).mono ?_
          rintro e w12 ⟨rfl, h12⟩
          have HW := Lib.hid (HB.out.trans (h12.way.mono HB.out.size))
          clear h12
          go_wp2
          go_ret
          exact ⟨rfl, HW.out⟩
end Go.Proofs.YtbadoihpbemjjaaDoor
