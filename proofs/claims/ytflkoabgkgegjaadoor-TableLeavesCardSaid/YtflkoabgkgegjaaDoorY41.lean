/- The walk of TableBack. Condition: the acts are read, and the tables hold what their texts say. -/
import Derived.Test.YtflkoabgkgegjaaDoorY39
/- The walk of TableBack. Condition: the acts are read, and the tables hold what their texts say. -/
namespace Go.Proofs.YtflkoabgkgegjaaDoor
open Go.RowKit Go.Maps

set_option maxRecDepth 100000 in
theorem back_long (A : Option Addr) (nl cap : Nat) (h : 100 < nl) (w : World) (hZ : TabZ w) (hC : TabC w) : Calls Tryd.prog 3 #[.slice A nl cap] w fun e w' => e = .returned (.bool true) ∧ Below w.heap.size w w' := by
  have i1 : (100 : Int) < (nl : Int) := by omega
  have HZ := Lib.hid hZ
  have HC := Lib.hid hC
  clear hZ hC h
  go_enter Tryd.func3, Tryd.ntmps3
  go_wp2_with fail
  refine (alive_any _ HZ.out HC.out).mono ?_
  rintro e w1 ⟨rfl, hb⟩
  have HB := Lib.hid hb
  clear hb
  go_wp2
  go_ret
  exact ⟨rfl, HB.out⟩
def isZ : Value → Bool | .int .u64 0 => true | _ => false
theorem zc_size : Tryd.zeroCells32.size = 256 := by kernel_rfl
theorem zc_all : (Tryd.zeroCells32.toList.all isZ) = true := by kernel_rfl
theorem zc_at (x : Nat) (hx : x < 256) : Tryd.zeroCells32[x]? = some (.int .u64 0) := by
  have hl : x < Tryd.zeroCells32.toList.length := by rw [Array.length_toList, zc_size]; exact hx
  have h := List.all_eq_true.1 zc_all (Tryd.zeroCells32.toList[x]) (List.getElem_mem hl)
  have e : ∀ v, isZ v = true → v = .int .u64 0 := fun v hv => by
    unfold isZ at hv
    split at hv
    · rfl
    · cases hv
  rw [Array.getElem?_eq_getElem (by rw [zc_size]; exact hx)]
  exact congrArg some (e _ h)
theorem zc_ar (w : World) : AR (w.alloc (.cells Tryd.zeroCells32 32)) w.heap.size (fun _ => 0) := ⟨_, heap_alloc_new w _, zc_size, fun i hi => zc_at i hi⟩
set_option maxRecDepth 100000 in
set_option maxHeartbeats 12800000 in
theorem back_short (l : List Ac) (A : Option Addr) (nl cap : Nat) (hn : l.length = nl) (h : nl ≤ 100) (hwf : ∀ x ∈ l, x.a < 18446744073709551616 ∧ x.b < 18446744073709551616) (w : World) (hZ : TabZ w) (hC : TabC w) (hA : SlR w A (acCells l)) : Calls Tryd.prog 3 #[.slice A nl cap] w fun e w' => e = .returned (.bool true) ∧ Below w.heap.size w w' := by
  have i1 : ¬ (100 : Int) < (nl : Int) := by omega
  have HZ := Lib.hid hZ
  have HC := Lib.hid hC
  have HA := Lib.hid hA
  have HN : Hid (l.length = nl ∧ nl ≤ 100) := Lib.hid ⟨hn, h⟩
  have HWF := Lib.hid hwf
  clear hZ hC hA hn h hwf
  go_enter Tryd.func3, Tryd.ntmps3
  go_wp2_with fail
  refine (alive_any _ HZ.out HC.out).mono ?_
  rintro e w1 ⟨rfl, hb⟩
  have HB := Lib.hid hb
  have HZ1 := Lib.hid (HZ.out.below HZ.out.lt hb)
  have HC1 := Lib.hid (HC.out.below HC.out.lt hb)
  have HA1 : Hid (SlR w1 A (acCells l)) := Lib.hid (HA.out.below hb)
  clear hb
  go_wp2_with fail
  refine (pnew 65536 (by omega) 65536 rfl _ HZ1.out HC1.out).mono ?_
  rintro e w2 ⟨pb, tb, qm, fb, ga, gb, b, c, rfl, h2⟩
  have H2 := Lib.hid h2
  clear h2
  go_wp2_with fail
  refine (pget_first H2.out HZ1.out HC1.out (by decide)).mono ?_
  rintro e w3 ⟨X, a, l3, P3, hX, ha, rfl, h3, k3, hx3, al3⟩
  have H3 := Lib.hid h3
  have AL3 := Lib.hid al3
  have HXA : Hid (X = (a : Int)) := Lib.hid hX
  have HX3 := Lib.hid hx3
  clear h3 k3 al3 hX ha hx3
  go_wp2_with fail
  refine (tat_first a X HXA.out H3.out HC1.out HX3.out).mono ?_
  rintro e w4 ⟨xb, rfl, h4, k4⟩
  have H4 := Lib.hid h4
  clear h4 k4
  go_wp2_with fail
  have b5 : Below w4.heap.size w4 (w4.alloc (.cells Tryd.zeroCells32 32)) := (Below.refl _ w4).alloc (Nat.le_refl _) _
  have a5 := zc_ar w4
  have h5 := H4.out.below b5
  have hlo : w1.heap.size ≤ w4.heap.size := H4.out.way.size
  have s5 : (w4.alloc (.cells Tryd.zeroCells32 32)).heap.size = w4.heap.size + 1 := World.size_alloc _ _
  generalize w4.alloc (.cells Tryd.zeroCells32 32) = w5 at b5 a5 h5 s5 ⊢
  have b6 : Below w5.heap.size w5 (w5.alloc (.cells Tryd.zeroCells32 32)) := (Below.refl _ w5).alloc (Nat.le_refl _) _
  have a6 := zc_ar w5
  have h6 := h5.below b6
  have a6' := a5.keep (KeepP.of_below b6)
  rw [s5] at a6
  obtain ⟨ab, hab⟩ : ∃ ab, w4.heap.size = ab := ⟨_, rfl⟩
  obtain ⟨bb, hbb⟩ : ∃ bb, ab + 1 = bb := ⟨_, rfl⟩
  rw [hab] at a6 a6'
  rw [hbb] at a6
  rw [hab, hbb]
  generalize w5.alloc (.cells Tryd.zeroCells32 32) = w6 at b6 a6 h6 a6' ⊢
  have H6 := Lib.hid h6
  have HA6 := Lib.hid a6'
  have HB6 := Lib.hid a6
  have HLO : Hid (w1.heap.size ≤ ab ∧ w1.heap.size ≤ bb ∧ ab ≠ bb) := Lib.hid (by omega)
  clear b5 a5 h5 hlo s5 b6 a6 h6 a6' hab hbb H4
  go_loopw [9, 10] (fun v9 _ wr => ∃ (k : Nat) (lt : List Tl) (P : Nat → List Pg) (f : Nat → Nat) (C : Nat) (lf A B : Nat → Nat), k ≤ nl ∧ v9 = .int .i64 (k : Int) ∧ TS w1 wr pb tb qm fb ga gb b c xb a 65536 (k + 1) lt P f C lf A B ∧ Alone lt P lf A C ∧ AR wr ab A ∧ AR wr bb B) (fun v9 _ _ => nl - (intOf v9).toNat)
  case atStart => exact ⟨0, _, _, _, _, _, _, _, Nat.zero_le _, rfl, H6.out, AL3.out, HA6.out, HB6.out⟩
  case round =>
    obtain ⟨k, lt, P, f, C, lf, A', B', hk, rfl, h7, al7, ar7, br7⟩ := hrel
    clear H6 HA6 HB6
    have H7 := Lib.hid h7
    have AL7 := Lib.hid al7
    have AR7 := Lib.hid ar7
    have BR7 := Lib.hid br7
    by_cases hlt : k < nl
    · have hkl : k < l.length := by have := HN.out; omega
      have j1 : (k : Int) < (nl : Int) := by omega
      have j0 : (0 : Int) ≤ (k : Int) := by omega
      have zk : IntKind.i64.wrap ((k : Int) + 1) = (k : Int) + 1 := by rw [IntKind.wrap_i64]; have := HN.out; omega
      obtain ⟨x, hx⟩ : ∃ x : Ac, l[k] = x := ⟨_, rfl⟩
      obtain ⟨g, off, rfl, hgl, d0, d1, d2, d3⟩ := HA1.out.ac hkl
      rw [hx] at d1 d2 d3
      obtain ⟨XA, hXA⟩ : ∃ XA : Int, (x.a : Int) = XA := ⟨_, rfl⟩
      obtain ⟨XB, hXB⟩ : ∃ XB : Int, (x.b : Int) = XB := ⟨_, rfl⟩
      rw [hXA] at d2
      rw [hXB] at d3
      have HSL : Hid (∀ wx, Below w1.heap.size w1 wx → wx.cell? ⟨g, off + k * 4 + 1, none⟩ = some (.int .i64 x.slot) ∧ wx.cell? ⟨g, off + k * 4 + 2, none⟩ = some (.int .u64 XA) ∧ wx.cell? ⟨g, off + k * 4 + 3, none⟩ = some (.int .u64 XB)) := Lib.hid (fun wx hb => ⟨(hb.cell (p := ⟨g, off + k * 4 + 1, none⟩) hgl).trans d1, (hb.cell (p := ⟨g, off + k * 4 + 2, none⟩) hgl).trans d2, (hb.cell (p := ⟨g, off + k * 4 + 3, none⟩) hgl).trans d3⟩)
      have HX : Hid (x.a < 18446744073709551616 ∧ x.b < 18446744073709551616 ∧ (x.a : Int) = XA ∧ (x.b : Int) = XB) := Lib.hid (by
        have := HWF.out x (by rw [← hx]; exact List.getElem_mem hkl)
        exact ⟨this.1, this.2, hXA, hXB⟩)
      obtain ⟨SL, hSL⟩ : ∃ SL : Int, x.slot = SL := ⟨_, rfl⟩
      rw [hSL] at HSL
      obtain ⟨c1, c2, c3⟩ := HSL.out _ h7.way
      have HLT := Lib.hid hlt
      have r1 := Int.tmod_lt_of_pos SL (show (0 : Int) < 256 by decide)
      have r2 : -256 < SL.tmod 256 := by
        have := Int.tmod_lt_of_pos (-SL) (show (0 : Int) < 256 by decide)
        rw [Int.neg_tmod] at this
        omega
      clear h7 al7 ar7 br7 hk hlt hkl hx d0 d1 d2 d3 hgl hXA hXB hSL
      have key : ∃ Z : Int, 0 ≤ Z ∧ Z < 256 ∧ ((decide (SL.tmod 256 < 0) = true ∧ IntKind.i64.wrap (-(SL.tmod 256)) = Z) ∨ (decide (SL.tmod 256 < 0) = false ∧ SL.tmod 256 = Z)) := by
        by_cases q : SL.tmod 256 < 0
        · exact ⟨-(SL.tmod 256), by omega, by omega, .inl ⟨decide_eq_true q, by rw [IntKind.wrap_i64]; omega⟩⟩
        · exact ⟨SL.tmod 256, by omega, by omega, .inr ⟨decide_eq_false q, rfl⟩⟩
      clear r1 r2
      obtain ⟨Z, z0, z1, key⟩ := key
      have HZZ : Hid (Z.toNat < 256 ∧ (Z.toNat : Int) = Z) := Lib.hid (by omega)
      by_cases q : XA = 0
      · have u1 : (XA == 0) = true := by simp [q]
        clear q
        rcases key with ⟨t1, t2⟩ | ⟨t1, t2⟩
        all_goals
          generalize hR : SL.tmod 256 = R at t1 t2
          go_wp2
          go_roundw
          case rel => exact ⟨k + 1, lt, P, f, C, lf, A', B', HLT.out, by go_num, H7.out.monon (Nat.le_succ _), AL7.out, AR7.out, BR7.out⟩
          case measure => have := HLT.out; (try simp [intOf]) <;> omega
      · have u1 : (XA == 0) = false := by simp [q]
        have HXN : Hid (x.a ≠ 0) := Lib.hid (by have := HX.out; omega)
        clear q
        rcases key with ⟨t1, t2⟩ | ⟨t1, t2⟩
        all_goals
          generalize hR : SL.tmod 256 = R at t1 t2
          go_wp2_with fail
          have hd := H7.out.below (Below.refl _ _).drew
          go_region_held3 (fun w' => w'.cell? ⟨g, off + k * 4 + 2, none⟩ = some (.int .u64 XA) ∧ w'.cell? ⟨g, off + k * 4 + 3, none⟩ = some (.int .u64 XB)) (first | (exact (HSL.out _ (TS.way (by assumption))).2)) (first | (go_at_call 10; (with_reducible refine (tset_ok hd AL7.out (by decide) HZ1.out HC1.out (by have := HN.out; have := HLT.out; omega) Z.toNat x.a x.b HZZ.out.1 HX.out.1 HX.out.2.1 HXN.out Z XA XB HZZ.out.2 HX.out.2.2.1 HX.out.2.2.2).mono ?_); rintro e w9 ⟨rfl, lt9, P9, f9, C9, lf9, h9, al9, k9⟩))
          have H9 := Lib.hid h9
          have AL9 := Lib.hid al9
          have kk : KeepP wr w9 := (KeepP.of_below (Below.refl wr.heap.size wr).drew).trans k9
          have ar9 := AR7.out.keep kk
          have br9 := BR7.out.keep kk
          have AR9 := Lib.hid ar9
          have BR9 := Lib.hid br9
          obtain ⟨cs9, ho9, _⟩ := ar9
          have g9 : w9.grownBy (w9.setCell ⟨ab, Z.toNat, none⟩ (.int .u64 XA)) (some ab) := gb_set (World.grownBy.refl _ _) _ _
          have h10 := h9.other ho9 HLO.out.1 g9
          have ar10 := AR9.out.set HZZ.out.1 x.a XA HX.out.2.2.1
          have br10 := BR9.out.other (fun e => HLO.out.2.2 e.symm) g9
          have H10 := Lib.hid h10
          have AR10 := Lib.hid ar10
          have BR10 := Lib.hid br10
          obtain ⟨cs10, ho10, _⟩ := br10
          have g10 : (w9.setCell ⟨ab, Z.toNat, none⟩ (.int .u64 XA)).grownBy ((w9.setCell ⟨ab, Z.toNat, none⟩ (.int .u64 XA)).setCell ⟨bb, Z.toNat, none⟩ (.int .u64 XB)) (some bb) := gb_set (World.grownBy.refl _ _) _ _
          have H11 := Lib.hid (h10.other ho10 HLO.out.2.1 g10)
          have AR11 := Lib.hid (AR10.out.other HLO.out.2.2 g10)
          have BR11 := Lib.hid (BR10.out.set HZZ.out.1 x.b XB HX.out.2.2.2)
          have m1 := (HSL.out _ H9.out.way).2.1
          have m2 := (HSL.out _ H10.out.way).2.2
          have ca := AR9.out.cell HZZ.out.1
          have fa := AR9.out.froz Z.toNat
          have cb := BR10.out.cell HZZ.out.1
          have fb2 := BR10.out.froz Z.toNat
          clear hd h9 al9 k9 kk br9 ar10 h10 g9 g10 ho9 ho10 c1 c2 c3
          go_wp2
          go_roundw
          case rel => exact ⟨k + 1, lt9, P9, f9, C9, lf9, _, _, HLT.out, by go_num, H11.out, AL9.out, AR11.out, BR11.out⟩
          case measure => have := HLT.out; (try simp [intOf]) <;> omega
    · have j1 : ¬ ((k : Int) < (nl : Int)) := by omega
      clear h7 al7 ar7 br7 hk hlt
      go_wp2_with fail
      go_loopw [11, 12, 13] (fun v11 _ _ wx => wx = wr ∧ ∃ s : Nat, s ≤ 256 ∧ v11 = .int .i64 (s : Int)) (fun v11 _ _ _ => 256 - (intOf v11).toNat)
      case atStart => exact ⟨rfl, 0, Nat.zero_le _, rfl⟩
      case round =>
        obtain ⟨rfl, s, hs, rfl⟩ := hrel
        by_cases q : s < 256
        · have u1 : decide ((s : Int) < 256) = true := decide_eq_true (by omega)
          have u0 : (0 : Int) ≤ (s : Int) := by omega
          have u2 : (s : Int) < 256 := by omega
          have zs : IntKind.i64.wrap ((s : Int) + 1) = (s : Int) + 1 := by rw [IntKind.wrap_i64]; omega
          obtain ⟨X1, hX1⟩ : ∃ X : Int, (A' s : Int) = X := ⟨_, rfl⟩
          obtain ⟨Y1, hY1⟩ : ∃ Y : Int, (B' s : Int) = Y := ⟨_, rfl⟩
          have HG := Lib.hid (tget_in H7.out s q (s : Int) X1 Y1 rfl hX1 hY1)
          have ca := AR7.out.cell q
          have cb := BR7.out.cell q
          rw [hX1] at ca
          rw [hY1] at cb
          have n1 : (X1 != X1) = false := by simp
          have n2 : (Y1 != Y1) = false := by simp
          have HQ := Lib.hid q
          clear hX1 hY1 q hs
          go_wp2_with fail
          refine HG.out.mono ?_
          rintro e w' ⟨rfl, hw⟩
          have hw2 := hw.symm
          clear hw
          subst hw2
          go_wp2
          go_roundw
          case rel => exact ⟨by first | rfl | trivial, s + 1, HQ.out, by go_num⟩
          case measure => have := HQ.out; (try simp [intOf]) <;> omega
        · have u1 : decide ((s : Int) < 256) = false := decide_eq_false (by omega)
          obtain ⟨m, hm⟩ : ∃ m, (leavesL lf 16).length = m := ⟨_, rfl⟩
          have hml : m ≤ 16 := by rw [← hm]; exact leavesL_length lf 16
          have hcost := AL7.out.cost
          rw [hm] at hcost
          obtain ⟨CC, hCC⟩ : ∃ CC : Int, (C : Int) = CC := ⟨_, rfl⟩
          obtain ⟨D, hD⟩ : ∃ D : Int, 256 * (m : Int) = D := ⟨_, rfl⟩
          have z1 : IntKind.i64.wrap (256 * (m : Int)) = D := by rw [IntKind.wrap_i64]; omega
          have z2 : IntKind.i64.wrap (128 + D) = CC := by rw [IntKind.wrap_i64]; omega
          have n1 : (CC != CC) = false := by simp
          have n2 : decide (16 < (m : Int)) = false := decide_eq_false (by omega)
          have HM := Lib.hid hm
          have HCC := Lib.hid hCC
          clear q hs hm hml hcost hCC hD
          go_wp2_with fail
          refine (tleaves H7.out m HM.out).mono ?_
          rintro e w8 ⟨A8, k8, rfl, _, hb8⟩
          have H8 := Lib.hid (H7.out.below hb8)
          have AR8 := Lib.hid (AR7.out.keep (KeepP.of_below hb8))
          clear hb8
          go_wp2_with fail
          refine (pquota H8.out.pl).mono ?_
          rintro e w' ⟨rfl, hw⟩
          have hw2 := hw.symm
          clear hw
          subst hw2
          go_wp2_with fail
          refine (quse_any H8.out.pl.qu (by have := H8.out.pl.le; omega) CC HCC.out).mono ?_
          rintro e w9 ⟨rfl, hb9⟩
          have H9 := Lib.hid (H8.out.below hb9)
          have AR9 := Lib.hid (AR8.out.keep (KeepP.of_below hb9))
          clear hb9
          go_wp2_with fail
          clear z1 z2 n1 n2
          go_loopw [15] (fun v15 wr => ∃ (s : Nat) (n2 : Nat) (lt : List Tl) (P : Nat → List Pg) (f : Nat → Nat) (C : Nat) (lf A2 B2 : Nat → Nat), s ≤ 256 ∧ v15 = .int .i64 ((s : Int) - 1) ∧ TS w1 wr pb tb qm fb ga gb b c xb a 65536 n2 lt P f C lf A2 B2 ∧ Alone lt P lf A2 C ∧ AR wr ab A' ∧ ∀ i, i < 256 → A2 i = if i < s then A' i else 0) (fun v15 _ => (intOf v15 + 1).toNat)
          case atStart => exact ⟨256, _, _, _, _, _, _, A', _, Nat.le_refl _, rfl, H9.out, AL7.out, AR9.out, fun i hi => by rw [if_pos hi]⟩
          case round =>
            obtain ⟨s, n2, lt, P, f, C, lf, A2, B2, hs, rfl, h10, al10, ar10, hz10⟩ := hrel
            have H10 := Lib.hid h10
            have AL10 := Lib.hid al10
            have AR10 := Lib.hid ar10
            have HZ10 := Lib.hid hz10
            obtain ⟨S, hS⟩ : ∃ S : Int, (s : Int) - 1 = S := ⟨_, rfl⟩
            rw [hS]
            by_cases q : 0 < s
            · have u1 : decide (0 ≤ S) = true := decide_eq_true (by omega)
              have u0 : (0 : Int) ≤ S := by omega
              have u2 : S < 256 := by omega
              have zs : IntKind.i64.wrap (S - 1) = S - 1 := by rw [IntKind.wrap_i64]; omega
              have hS2 : ((s - 1 : Nat) : Int) = S := by omega
              obtain ⟨X1, hX1⟩ : ∃ X : Int, (A' (s - 1) : Int) = X := ⟨_, rfl⟩
              obtain ⟨E, hE⟩ : ∃ E : Int, E = if A2 (s - 1) = 0 then 6 else 0 := ⟨_, rfl⟩
              have he := hz10 (s - 1) (by omega)
              rw [if_pos (by omega)] at he
              obtain ⟨e1, k1, k2⟩ : ∃ e1 : Bool, (E == 0) = e1 ∧ (X1 != 0) = e1 := by
                rw [he] at hE
                by_cases q2 : A' (s - 1) = 0
                · rw [if_pos q2] at hE
                  have : X1 = 0 := by omega
                  rw [hE, this]
                  exact ⟨false, rfl, rfl⟩
                · rw [if_neg q2] at hE
                  have h1 : (X1 != 0) = true := by simp; omega
                  rw [hE, h1]
                  exact ⟨true, rfl, rfl⟩
              have n3 : (e1 != e1) = false := by simp
              have HCEL : Hid (∀ wx, AR wx ab A' → wx.cell? ⟨ab, S.toNat, none⟩ = some (.int .u64 X1)) := Lib.hid (fun wx hx => by
                rw [show S.toNat = s - 1 by omega, hx.cell (by omega), hX1])
              have HS : Hid (0 < s ∧ s ≤ 256 ∧ ((s - 1 : Nat) : Int) = S ∧ E = if A2 (s - 1) = 0 then 6 else 0) := Lib.hid ⟨q, hs, hS2, hE⟩
              have c1 := HCEL.out _ ar10
              clear h10 al10 ar10 hz10 hS hs q hS2 hX1 hE he
              go_wp2_with fail
              have hd := H10.out.below (Below.refl _ _).drew
              have hard := AR10.out.keep (KeepP.of_below (Below.refl _ _).drew)
              go_region_held3 (fun w' => w'.cell? ⟨ab, S.toNat, none⟩ = some (.int .u64 X1)) (first | (exact HCEL.out _ (by assumption))) (first | (go_at_call 15; (with_reducible refine (tclear_ok hd AL10.out HC1.out (s - 1) (by have := HS.out; omega) E S HS.out.2.2.2 HS.out.2.2.1).mono ?_); rintro e w11 ⟨rfl, lt11, P11, f11, C11, lf11, B11, h11, al11, k11⟩; have ar11 := hard.keep k11))
              have H11 := Lib.hid h11
              have AL11 := Lib.hid al11
              have AR11 := Lib.hid ar11
              have HZ11 : Hid (∀ i, i < 256 → updF A2 (s - 1) 0 i = if i < s - 1 then A' i else 0) := Lib.hid (fun i hi => by
                by_cases e : i = s - 1
                · rw [e, updF_same, if_neg (by omega)]
                · rw [updF_other _ _ e, HZ10.out i hi]
                  by_cases q : i < s
                  · rw [if_pos q, if_pos (by omega)]
                  · rw [if_neg q, if_neg (by omega)])
              clear hd hard h11 al11 k11 ar11 c1
              go_wp2
              go_roundw
              case rel => exact ⟨s - 1, n2, lt11, P11, f11, C11, lf11, _, _, by have := HS.out; omega, by have := HS.out; congr 1; omega, H11.out, AL11.out, AR11.out, HZ11.out⟩
              case measure => have := HS.out; (try simp [intOf]) <;> omega
            · have u1 : decide (0 ≤ S) = false := decide_eq_false (by omega)
              have hAz : ∀ i, i < 256 → A2 i = 0 := fun i hi => by rw [hz10 i hi, if_neg (by omega)]
              have hlz : ∀ j, j < 16 → lf j = 0 := fun j hj => Decidable.byContradiction fun hn => by
                obtain ⟨i, hi, h2⟩ := al10.full j hj hn
                exact h2 (hAz _ (by omega))
              have hC : C = 128 := by
                have := al10.cost
                rw [leavesL_nil hlz] at this
                exact this
              have HAZ := Lib.hid hAz
              have HC128 := Lib.hid hC
              clear h10 al10 ar10 hz10 hS hs q hAz hlz hC
              go_wp2_with fail
              refine (alive_any _ (HZ1.out.below HZ1.out.lt H10.out.way) (HC1.out.below HC1.out.lt H10.out.way)).mono ?_
              rintro e w12 ⟨rfl, hb12⟩
              have H12 := Lib.hid (H10.out.below hb12)
              clear hb12
              go_wp2_with fail
              refine (pquota H12.out.pl).mono ?_
              rintro e w' ⟨rfl, hw⟩
              have hw2 := hw.symm
              clear hw
              subst hw2
              go_wp2_with fail
              refine (quse_any H12.out.pl.qu (by have := HC128.out; omega) 128 (by have := HC128.out; omega)).mono ?_
              rintro e w13 ⟨rfl, hb13⟩
              have H13 := Lib.hid (H12.out.below hb13)
              clear hb13
              go_wp2_with fail
              refine (tslots H13.out 0 (by rw [slotsL_nil HAZ.out]; rfl)).mono ?_
              rintro e w14 ⟨A14, k14, rfl, _, hb14⟩
              have HW := Lib.hid (HB.out.trans ((H13.out.below hb14).way.mono HB.out.size))
              clear hb14
              go_wp2
              go_ret
              exact ⟨rfl, HW.out⟩
theorem back_any (l : List Ac) (A : Option Addr) (cap : Nat) (hwf : ∀ x ∈ l, x.a < 18446744073709551616 ∧ x.b < 18446744073709551616) (w : World) (hZ : TabZ w) (hC : TabC w) (hA : SlR w A (acCells l)) : Calls Tryd.prog 3 #[.slice A l.length cap] w fun e w' => e = .returned (.bool true) ∧ Below w.heap.size w w' := by
  by_cases h : 100 < l.length
  · exact back_long A _ cap h w hZ hC
  · exact back_short l A _ cap rfl (by omega) hwf w hZ hC hA
end Go.Proofs.YtflkoabgkgegjaaDoor
