/- The walk of TableActs. Condition: the acts and what is asked are read, and the tables hold what their texts say. -/
import Derived.Test.YtflkoabgkgegjaaGreatDoorY42
import Derived.Deep.CutRange
import Derived.Deep.CutBlock
/- The walk of TableActs. Condition: the acts and what is asked are read, and the tables hold what their texts say. -/
namespace Go.Proofs.YtflkoabgkgegjaaGreatDoor
open Go.RowKit Go.Maps

set_option maxRecDepth 100000 in
set_option maxHeartbeats 12800000 in
theorem tacts_go (v : Nat) (hv : v ≤ 65408) (V : Int) (hV : (v : Int) = V) (l : List Ac) (A : Option Addr) (nl cap : Nat) (hn : l.length = nl) (Q : List Int) (Aq : Option Addr) (nq capq : Nat) (hq : Q.length = nq) (h : nl ≤ 100 ∧ nq ≤ 100) (hwf : ∀ x ∈ l, x.a < 18446744073709551616 ∧ x.b < 18446744073709551616) (w : World) (hZ : TabZ w) (hC : TabC w) (hA : SlR w A (acCells l)) (hQ : SlR w Aq (i64s Q)) : Calls Tryz.prog 3 #[.int .u16 V, .slice A nl cap, .slice Aq nq capq] w fun e w' => e = .returned (.bool true) ∧ Below w.heap.size w w' := by
  have i1 : ¬ (100 : Int) < (nl : Int) := by omega
  have i2 : ¬ (100 : Int) < (nq : Int) := by omega
  obtain ⟨LL, hLL⟩ : ∃ LL : Int, ((128 + v : Nat) : Int) = LL := ⟨_, rfl⟩
  have z0 : IntKind.i64.wrap V = V := by rw [IntKind.wrap_i64]; omega
  have z1 : IntKind.i64.wrap (128 + V) = LL := by rw [IntKind.wrap_i64]; omega
  have z2 : V.tmod 65409 = V := by rw [Int.tmod_eq_emod_of_nonneg (by omega)]; omega
  have i3 : decide (65408 < V) = false := decide_eq_false (by omega)
  have HZ := Lib.hid hZ
  have HC := Lib.hid hC
  have HA := Lib.hid hA
  have HQ := Lib.hid hQ
  have HWF := Lib.hid hwf
  have HN : Hid (l.length = nl ∧ Q.length = nq ∧ nl ≤ 100 ∧ nq ≤ 100 ∧ 128 + v ≤ 65536 ∧ 128 ≤ 128 + v) := Lib.hid ⟨hn, hq, h.1, h.2, by omega, by omega⟩
  have HLL := Lib.hid hLL
  clear hZ hC hA hQ hwf hn hq h hLL hV hv
  go_enter Tryz.func3, Tryz.ntmps3
  go_wp2_with fail
  refine (alive_any _ HZ.out HC.out).mono ?_
  rintro e w1 ⟨rfl, hb⟩
  have HB := Lib.hid hb
  have HZ1 := Lib.hid (HZ.out.below HZ.out.lt hb)
  have HC1 := Lib.hid (HC.out.below HC.out.lt hb)
  clear hb
  go_wp2_with (first | (go_at_call 5; refine (nget _ _).mono ?_; rintro e w' ⟨rfl, hw⟩; have hw2 := hw.symm; clear hw; subst hw2) | (go_at_call 6; refine (nset _ _ _ _).mono ?_; rintro e w' ⟨rfl, hw⟩; have hw2 := hw.symm; clear hw; subst hw2) | (go_at_call 7; refine (nclear _ _).mono ?_; rintro e w' ⟨rfl, hw⟩; have hw2 := hw.symm; clear hw; subst hw2) | (go_at_call 8; refine (nslots _).mono ?_; rintro e w' ⟨rfl, hw⟩; have hw2 := hw.symm; clear hw; subst hw2) | (go_at_call 9; refine (nleaves _).mono ?_; rintro e w' ⟨rfl, hw⟩; have hw2 := hw.symm; clear hw; subst hw2))
  obtain ⟨w2, hw2⟩ : ∃ w2, w1.alloc (Obj.cells #[Value.int IntKind.i64 0] 3) = w2 := ⟨_, rfl⟩
  rw [hw2]
  have b2 : Below w1.heap.size w1 w2 := by rw [← hw2]; exact (Below.refl _ w1).alloc (Nat.le_refl _) _
  have HB2 := Lib.hid (HB.out.trans (b2.mono HB.out.size))
  have HZ2 := Lib.hid (HZ1.out.below HZ1.out.lt b2)
  have HC2 := Lib.hid (HC1.out.below HC1.out.lt b2)
  have HA2 : Hid (SlR w2 A (acCells l)) := Lib.hid (HA.out.below HB2.out)
  have HQ2 : Hid (SlR w2 Aq (i64s Q)) := Lib.hid (HQ.out.below HB2.out)
  clear b2 hw2 HA HQ HZ HC HZ1 HC1
  refine (nneed _ _).mono ?_
  rintro e w' ⟨rfl, hw⟩
  have hw2 := hw.symm
  clear hw
  subst hw2
  go_wp2_with fail
  refine (nat_ 64 _).mono ?_
  rintro e w' ⟨rfl, hw⟩
  have hw2 := hw.symm
  clear hw
  subst hw2
  go_wp2_with fail
  refine (pnew (128 + v) HN.out.2.2.2.2.1 LL HLL.out _ HZ2.out HC2.out).mono ?_
  rintro e w3 ⟨pb, tb, qm, fb, ga, gb, b, c, rfl, h3⟩
  have H3 := Lib.hid h3
  clear h3
  go_wp2_with fail
  refine (rpnew (128 + v) LL HLL.out _ w2.heap.size H3.out.way.size).mono ?_
  rintro e w4 ⟨rp, rt, fq, g, r, rfl, hr4, hb4, _⟩
  have H4 := Lib.hid (H3.out.below hb4)
  have HR4 := Lib.hid hr4
  clear hr4 hb4 H3
  go_wp2_with fail
  refine (td_first H4.out HZ2.out HC2.out HN.out.2.2.2.2.2 HR4.out).mono ?_
  rintro e w5 ⟨X, a, l5, P5, hX, hx, rfl, p5⟩
  have HX : Hid (X = (a : Int) ∧ X ∈ usedC (mC 2) (szC 2) P5) := Lib.hid ⟨hX, hx⟩
  have P5r := Lib.hid p5
  clear p5 hX hx H4 HR4
  go_wp2_with fail
  refine (P5r.out _ (Below.refl _ _)).mono ?_
  rintro e w6 ⟨rfl, h6, r6⟩
  have H6 := Lib.hid h6
  have R6 := Lib.hid r6
  clear h6 r6 P5r
  have nX : (X != X) = false := by simp
  go_wp2_with fail
  refine (tat_first a X HX.out.1 H6.out HC2.out HX.out.2).mono ?_
  rintro e w7 ⟨xb, rfl, h7, k7⟩
  have H7 := Lib.hid h7
  have R7 := Lib.hid (R6.out.keep k7.p)
  clear h7 k7 H6 R6
  go_wp2_with fail
  have hz : Tryz.zeroCells48.setIfInBounds 0 (.pointer (some ⟨rp, 0, none⟩)) = row9 rp := by kernel_rfl
  rw [hz]
  have h8 := TDs.start H7.out R7.out
  obtain ⟨tp, htp⟩ : ∃ tp, w7.heap.size = tp := ⟨_, rfl⟩
  rw [htp] at h8 ⊢
  obtain ⟨w8, hw8⟩ : ∃ w8, w7.alloc (.cells (row9 rp) 48) = w8 := ⟨_, rfl⟩
  rw [hw8] at h8 ⊢
  have H8 := Lib.hid h8
  clear h8 htp hw8 H7 R7 HX nX hz z0 z1 z2 i3
  go_loopw [18] (fun i wr => ∃ k : Nat, k ≤ nl ∧ i = .int .i64 (k : Int) ∧ TDs w2 wr pb tb qm fb ga gb b c xb a (128 + v) rp rt fq g r tp (k + 1)) (fun i _ => nl - (intOf i).toNat)
  case atStart => exact ⟨0, Nat.zero_le _, rfl, H8.out⟩
  case round =>
    obtain ⟨k, hk, rfl, h9⟩ := hrel
    clear H8
    have H9 := Lib.hid h9
    by_cases hlt : k < nl
    · have hkl : k < l.length := by have := HN.out; omega
      have i0 : (0 : Int) ≤ (k : Int) := by omega
      have i3 : (k : Int) < (nl : Int) := by omega
      obtain ⟨x, hx⟩ : ∃ x : Ac, l[k] = x := ⟨_, rfl⟩
      obtain ⟨ab, off, rfl, _, d0, d1, d2, d3⟩ := (HA2.out.below h9.way).ac hkl
      rw [hx] at d0 d1 d2 d3
      obtain ⟨XA, hXA⟩ : ∃ XA : Int, (x.a : Int) = XA := ⟨_, rfl⟩
      obtain ⟨XB, hXB⟩ : ∃ XB : Int, (x.b : Int) = XB := ⟨_, rfl⟩
      rw [hXA] at d2
      rw [hXB] at d3
      have HXC : Hid (x.a < 18446744073709551616 ∧ x.b < 18446744073709551616 ∧ (x.a : Int) = XA ∧ (x.b : Int) = XB) := Lib.hid (by
        have := HWF.out x (by rw [← hx]; exact List.getElem_mem hkl)
        exact ⟨this.1, this.2, hXA, hXB⟩)
      obtain ⟨K, hK⟩ : ∃ K : Int, x.kind = K := ⟨_, rfl⟩
      obtain ⟨S, hS⟩ : ∃ S : Int, x.slot = S := ⟨_, rfl⟩
      rw [hK] at d0
      rw [hS] at d1
      have k1000 : Hid (k + 1 < 1000) := Lib.hid (by have := HN.out; omega)
      have kle : Hid (k + 1 ≤ nl) := Lib.hid hlt
      clear h9 hx hXA hXB hK hS hkl hk hlt
      go_upto_block 2 with fail
      have b9 : Below wr.heap.size wr (wr.alloc (.cells #[.int .i64 K, .int .i64 S, .int .u64 XA, .int .u64 XB] 50)) := (Below.refl _ wr).alloc (Nat.le_refl _) _
      have a9 := AS.new wr K S XA XB
      have t9 := H9.out.below b9
      obtain ⟨xa, hxa⟩ : ∃ xa, wr.heap.size = xa := ⟨_, rfl⟩
      rw [hxa] at a9 ⊢
      obtain ⟨w9, hw9⟩ : ∃ w9, wr.alloc (.cells #[.int .i64 K, .int .i64 S, .int .u64 XA, .int .u64 XB] 50) = w9 := ⟨_, rfl⟩
      rw [hw9] at a9 t9 ⊢
      have A9 := Lib.hid a9
      have T9 := Lib.hid t9
      clear a9 t9 b9 hw9 hxa H9 d0 d1 d2 d3
      go_cut [20, 21, 22, 23, 24] from 131 to 184 (fun s _ _ _ _ wx => s = .bool true ∧ TDs w2 wx pb tb qm fb ga gb b c xb a (128 + v) rp rt fq g r tp (k + 1 + 1) ∧ AS wx xa K S XA XB)
      case first =>
        by_cases q0 : K = 0
        · have t0 : (K == 0) = true := by simp [q0]
          clear q0
          go_wp2_with fail
          have hd := T9.out.below (Below.refl _ _).drew
          have ad := A9.out.below (Below.refl _ _).drew
          go_region_held3 (fun w' => w'.cell? ⟨xa, 1, none⟩ = some (.int .i64 S) ∧ w'.cell? ⟨xa, 2, none⟩ = some (.int .u64 XA) ∧ w'.cell? ⟨xa, 3, none⟩ = some (.int .u64 XB)) (first | (exact AS.cells (by assumption))) (first | (go_at_call 6; (with_reducible refine (td_set hd HZ2.out HC2.out k1000.out S x.a x.b HXC.out.1 HXC.out.2.1 XA XB HXC.out.2.2.1 HXC.out.2.2.2).mono ?_); rintro e w10 ⟨er, rfl, k10, p10⟩; have a10 : AS w10 xa K S XA XB := AS.keep (by assumption) k10) | (go_at_call 16; (with_reducible refine (p10 _ (Below.refl _ _)).mono ?_); rintro e w11 ⟨rfl, h11, k11⟩; have a11 : AS w11 xa K S XA XB := AS.keep (by assumption) k11))
          have H11 := Lib.hid h11
          have A11 := Lib.hid a11
          clear hd ad a10 h11 a11 k10 k11 p10
          go_wp2
          go_meet
          exact ⟨rfl, H11.out, A11.out⟩
        · have t0 : (K == 0) = false := by simp [q0]
          by_cases q1 : K = 1
          · have t1 : (K == 1) = true := by simp [q1]
            clear q0 q1
            go_wp2_with fail
            have hd := T9.out.below (Below.refl _ _).drew
            have ad := A9.out.below (Below.refl _ _).drew
            go_region_held3 (fun w' => w'.cell? ⟨xa, 1, none⟩ = some (.int .i64 S) ∧ w'.cell? ⟨xa, 2, none⟩ = some (.int .u64 XA) ∧ w'.cell? ⟨xa, 3, none⟩ = some (.int .u64 XB)) (first | (exact AS.cells (by assumption))) (first | (go_at_call 7; (with_reducible refine (td_clear hd HC2.out S).mono ?_); rintro e w10 ⟨er, rfl, k10, p10⟩; have a10 : AS w10 xa K S XA XB := AS.keep (by assumption) k10) | (go_at_call 17; (with_reducible refine (p10 _ (Below.refl _ _)).mono ?_); rintro e w11 ⟨rfl, h11, k11⟩; have a11 : AS w11 xa K S XA XB := AS.keep (by assumption) k11))
            have H11 := Lib.hid (h11.monon (Nat.le_succ _))
            have A11 := Lib.hid a11
            clear hd ad a10 h11 a11 k10 k11 p10
            go_wp2
            go_meet
            exact ⟨rfl, H11.out, A11.out⟩
          · have t1 : (K == 1) = false := by simp [q1]
            by_cases q2 : K = 2
            · have t2 : (K == 2) = true := by simp [q2]
              clear q0 q1 q2
              obtain ⟨c1, _, _⟩ := A9.out.cells
              go_wp2_with fail
              refine (td_get T9.out HZ2.out HC2.out k1000.out S).mono ?_
              rintro e w10 ⟨u, er, rfl, k10, p10⟩
              have A10 := Lib.hid (A9.out.keep k10)
              have P10 := Lib.hid p10
              clear c1 k10 p10
              obtain ⟨c1, _, _⟩ := A10.out.cells
              go_wp2_with fail
              refine (P10.out _ (Below.refl _ _)).mono ?_
              rintro e w11 ⟨rfl, h11, k11⟩
              have A11 := Lib.hid (A10.out.keep k11)
              have H11 := Lib.hid h11
              clear c1 h11 k11 P10
              go_wp2
              go_meet
              exact ⟨rfl, H11.out, A11.out⟩
            · have t2 : (K == 2) = false := by simp [q2]
              have H11 := Lib.hid (T9.out.monon (Nat.le_succ _))
              clear q0 q1 q2
              go_wp2
              go_meet
              exact ⟨rfl, H11.out, A9.out⟩
      case rest =>
        obtain ⟨rfl, h10, a10⟩ := hcut
        obtain ⟨X1, Y1, hg⟩ := td_tget h10 S
        obtain ⟨N, hu⟩ := td_use h10
        obtain ⟨ms, Qs, hms, hmsl, hs⟩ := td_slots h10
        obtain ⟨ml, Ql, hml, hmll, hl⟩ := td_leaves h10
        have H10 := Lib.hid h10
        have A10 := Lib.hid a10
        have HG := Lib.hid hg
        have HU := Lib.hid hu
        have HS : Hid (ms = Qs.length ∧ ms ≤ 1073741824) := Lib.hid ⟨hms, hmsl⟩
        have HSs := Lib.hid hs
        have HM : Hid (ml = Ql.length ∧ ml ≤ 1073741824) := Lib.hid ⟨hml, hmll⟩
        have HLs := Lib.hid hl
        have n1 : (X1 != X1) = false := by simp
        have n2 : (Y1 != Y1) = false := by simp
        have n3 : (N != N) = false := by simp
        obtain ⟨c1, _, _⟩ := a10.cells
        clear h10 a10 hg hu hms hmsl hs hml hmll hl T9 A9
        go_wp2_with fail
        refine (HG.out _ (Below.refl _ _)).1.mono ?_
        rintro e w' ⟨rfl, hw⟩
        have hw2 := hw.symm
        clear hw
        subst hw2
        go_wp2_with fail
        refine (HG.out _ (Below.refl _ _)).2.mono ?_
        rintro e w11 ⟨rfl, hb11⟩
        have HB11 := Lib.hid hb11
        have r2 := (HU.out _ hb11).2.2.1
        clear hb11 HG c1
        go_wp2_with fail
        refine (HU.out _ HB11.out).2.2.2.mono ?_
        rintro e w' ⟨rfl, hw⟩
        have hw2 := hw.symm
        clear hw
        subst hw2
        clear r2
        go_wp2_with fail
        refine (HU.out _ HB11.out).1.mono ?_
        rintro e w' ⟨rfl, hw⟩
        have hw2 := hw.symm
        clear hw
        subst hw2
        go_wp2_with fail
        refine (HU.out _ HB11.out).2.1.mono ?_
        rintro e w12 ⟨rfl, hb12⟩
        have HB12 := Lib.hid (HB11.out.trans (hb12.mono HB11.out.size))
        clear hb12
        go_wp2_with fail
        refine (HSs.out _ HB12.out).1.mono ?_
        rintro e w13 ⟨A13, k13, rfl, s13, hb13⟩
        have HB13 := Lib.hid (HB12.out.trans (hb13.mono HB12.out.size))
        have S13 := Lib.hid s13
        clear s13 hb13
        go_wp2_with fail
        refine (HSs.out _ HB13.out).2.mono ?_
        rintro e w14 ⟨A14, k14, rfl, s14, hb14⟩
        have HB14 := Lib.hid (HB13.out.trans (hb14.mono HB13.out.size))
        have S14 := Lib.hid s14
        have S14a := Lib.hid (S13.out.below hb14)
        clear s14 hb14
        go_wp2_with fail
        refine (same_i Qs ms HS.out.1 HS.out.2 _ _ _ _ _ S14a.out S14.out).mono ?_
        rintro e w15 ⟨rfl, hb15⟩
        have HB15 := Lib.hid (HB14.out.trans (hb15.mono HB14.out.size))
        clear hb15
        go_wp2_with fail
        refine (HLs.out _ HB15.out).1.mono ?_
        rintro e w16 ⟨A16, k16, rfl, s16, hb16⟩
        have HB16 := Lib.hid (HB15.out.trans (hb16.mono HB15.out.size))
        have S16 := Lib.hid s16
        clear s16 hb16
        go_wp2_with fail
        refine (HLs.out _ HB16.out).2.mono ?_
        rintro e w17 ⟨A17, k17, rfl, s17, hb17⟩
        have HB17 := Lib.hid (HB16.out.trans (hb17.mono HB16.out.size))
        have S17 := Lib.hid s17
        have S17a := Lib.hid (S16.out.below hb17)
        clear s17 hb17
        go_wp2_with fail
        refine (same_i Ql ml HM.out.1 HM.out.2 _ _ _ _ _ S17a.out S17.out).mono ?_
        rintro e w18 ⟨rfl, hb18⟩
        have HB18 := Lib.hid (HB17.out.trans (hb18.mono HB17.out.size))
        clear hb18
        go_wp2
        go_roundw
        case rel => exact ⟨k + 1, kle.out, by go_num, H10.out.below HB18.out⟩
        case measure => have := kle.out; (try simp [intOf]) <;> omega
    · have i3 : ¬ ((k : Int) < (nl : Int)) := by omega
      obtain ⟨N, hne⟩ := td_need h9 Q nq HN.out.2.1 (by have := HN.out; omega) Aq capq (HQ2.out.below h9.way)
      have HNE := Lib.hid hne
      have HW := Lib.hid (HB2.out.trans (h9.way.mono HB2.out.size))
      clear h9 hk hlt hne
      go_wp2_with fail
      refine (HNE.out _ (Below.refl _ _)).1.mono ?_
      rintro e w10 ⟨rfl, hb10⟩
      have HB10 := Lib.hid hb10
      clear hb10
      go_wp2_with fail
      refine (HNE.out _ HB10.out).2.mono ?_
      rintro e w11 ⟨rfl, hb11⟩
      have HB11 := Lib.hid (HW.out.trans ((HB10.out.trans (hb11.mono HB10.out.size)).mono HW.out.size))
      clear hb11
      go_wp2
      go_ret
      exact ⟨by simp, HB11.out⟩
theorem tacts_any (v : Nat) (hv : v < 65536) (l : List Ac) (A : Option Addr) (cap : Nat) (Q : List Int) (Aq : Option Addr) (capq : Nat) (hwf : ∀ x ∈ l, x.a < 18446744073709551616 ∧ x.b < 18446744073709551616) (w : World) (hZ : TabZ w) (hC : TabC w) (hA : SlR w A (acCells l)) (hQ : SlR w Aq (i64s Q)) : Calls Tryz.prog 3 #[.int .u16 (v : Int), .slice A l.length cap, .slice Aq Q.length capq] w fun e w' => e = .returned (.bool true) ∧ Below w.heap.size w w' := by
  by_cases h : 100 < l.length ∨ 100 < Q.length
  · exact tacts_long _ A _ cap Aq _ capq h w hZ hC
  by_cases h2 : 65408 < v
  · exact tacts_no v ⟨h2, hv⟩ _ rfl A _ cap Aq _ capq (by omega) w hZ hC
  · exact tacts_go v (by omega) _ rfl l A _ cap rfl Q Aq _ capq rfl (by omega) hwf w hZ hC hA hQ
end Go.Proofs.YtflkoabgkgegjaaGreatDoor
