/- The reference's Give. Condition: its row is read. -/
import Derived.Test.YtbadoihpbemjjaaDoorY39
/- The reference's Give. Condition: its row is read. -/
namespace Go.Proofs.YtbadoihpbemjjaaDoor
open Go.RowKit Go.Maps

section
variable {w w' : World} {r g size top M : Nat} {A1 A2 S1 S2 : Option Addr} {c1 c2 d1 d2 : Nat} {l : List Tl} {SL UL : List Int}
/-- what the reference's Give does -/
inductive RGv (top M size : Nat) (l : List Tl) (SL UL : List Int) (x : Int) : Int → List Tl → List Int → List Int → Prop
  | no (h : x ∉ UL) : RGv top M size l SL UL x 6 l SL UL
  | some (h : x ∈ UL) (k : Nat) (hk : k < M) (hu : x.tdiv 1024 * 1024 + 64 + ((k * size : Nat) : Int) ∈ cutL UL x) : RGv top M size l SL UL x 0 l SL (cutL UL x)
  | all (h : x ∈ UL) (hu : ∀ k, k < M → x.tdiv 1024 * 1024 + 64 + ((k * size : Nat) : Int) ∉ cutL UL x) (er : Int) (l' : List Tl) (hc : giveC top l (x.tdiv 1024 * 1024) = (er, l')) : RGv top M size l SL UL x 0 l' (cutL SL (x.tdiv 1024 * 1024)) (cutL UL x)
theorem cutL_len (L : List Int) (x : Int) : (cutL L x).length ≤ L.length := List.length_filter_le _ _
set_option maxRecDepth 100000 in
set_option maxHeartbeats 3200000 in
theorem rcgive (h : RC w r g size top A1 c1 A2 c2 l S1 d1 SL S2 d2 UL) (hg : Good top l) (ht : top ≤ 20) (hs : 16 ≤ size) (hs2 : size ≤ 512) (hM : M = 960 / size) (x : Int) (hb : x ∈ UL → 0 ≤ x ∧ x ≤ 1099511627776) (hl1 : SL.length ≤ 62914559) (hl2 : UL.length ≤ 62914560) (base : Nat) (hbr : base ≤ r) (hbg : base ≤ g) :
    Calls Tryd.prog 22 #[.pointer (some ⟨r, 0, none⟩), .int .i64 x] w fun e w' => ∃ er l' SL' UL', e = .returned (.int .i64 er) ∧ RGv top M size l SL UL x er l' SL' UL' ∧ (∃ B1 e1 B2 e2 T1 f1 T2 f2, RC w' r g size top B1 e1 B2 e2 l' T1 f1 SL' T2 f2 UL') ∧ RT base w w' := by
  obtain ⟨m1, m2⟩ := size_many hs hs2 hM
  obtain ⟨n1, hn1⟩ : ∃ n1, SL.length = n1 := ⟨_, rfl⟩
  obtain ⟨n2, hn2⟩ : ∃ n2, UL.length = n2 := ⟨_, rfl⟩
  have HH := Lib.hid h
  have HG := Lib.hid hg
  have HT := Lib.hid ht
  have HN1 := Lib.hid hn1
  have HN2 := Lib.hid hn2
  have HL1 : Hid (n1 ≤ 62914559) := Lib.hid (by omega)
  have HL2 : Hid (n2 ≤ 62914560) := Lib.hid (by omega)
  have HSM : Hid (16 ≤ size ∧ size ≤ 512 ∧ M = 960 / size ∧ 0 < M ∧ M ≤ 60) := Lib.hid ⟨hs, hs2, hM, m1, m2⟩
  have k3 := h.r3
  rw [hn2] at k3
  by_cases hx : x ∈ UL
  · obtain ⟨b1, b2⟩ := hb hx
    obtain ⟨S, hS⟩ : ∃ S : Int, (size : Int) = S := ⟨_, rfl⟩
    obtain ⟨MM, hMM⟩ : ∃ MM : Int, (M : Int) = MM := ⟨_, rfl⟩
    obtain ⟨D, hD⟩ : ∃ D : Int, x.tdiv 1024 = D := ⟨_, rfl⟩
    obtain ⟨Q, hQ⟩ : ∃ Q : Int, D * 1024 = Q := ⟨_, rfl⟩
    have hD2 := hD
    rw [Int.tdiv_eq_ediv_of_nonneg b1] at hD2
    have hQB : 0 ≤ Q ∧ Q ≤ 1099511627776 := by omega
    have zD : IntKind.i64.wrap D = D := by rw [IntKind.wrap_i64]; omega
    have zD2 : wrap64 D = D := by rw [wrap64]; omega
    have zQ : IntKind.i64.wrap (D * 1024) = Q := by rw [IntKind.wrap_i64]; omega
    have HX := Lib.hid hx
    have HS := Lib.hid hS
    have HMM := Lib.hid hMM
    have HQD : Hid (x.tdiv 1024 * 1024 = Q) := Lib.hid (by rw [hD, hQ])
    have HQB := Lib.hid hQB
    clear h hg ht hs hs2 hM hb hl1 hl2 hn1 hn2 hS hMM m1 m2 hx b1 b2 hD2 hQ hQB
    go_enter Tryd.func22, Tryd.ntmps22
    go_wp2_with fail
    refine (has_r UL n2 HN2.out.symm (by have := HL2.out; omega) S2 d2 x true (by simp [HX.out]) _ HH.out.ul.sl).mono ?_
    rintro e w' ⟨rfl, hw⟩
    have hw2 := hw.symm
    clear hw
    subst hw2
    go_wp2_with fail
    refine (cut_i UL n2 HN2.out.symm HL2.out S2 d2 x _ HH.out.ul.sl).mono ?_
    rintro e w5 ⟨A', m', c', rfl, hm', ho, hb5⟩
    have h5 := HH.out.below hb5
    have h6 := h5.setU (d := c') (heldT_own ho) hm' (ownsRow_le ho)
    have HR6 := Lib.hid (h5.stepR (HH.out.stepB (RT.refl _) hbr hb5) hbr (gb_set (World.grownBy.refl _ _) 3 (.slice A' m' c')))
    have x3 := h5.r3
    have f3 := h5.froz 3
    have H6 := Lib.hid h6
    have HM' := Lib.hid hm'
    have HLM : Hid (m' ≤ 62914560) := Lib.hid (by have := cutL_len UL x; have := HN2.out; have := HL2.out; omega)
    obtain ⟨w6, hw6⟩ : ∃ w6, w5.setCell ⟨r, 3, none⟩ (.slice A' m' c') = w6 := ⟨_, rfl⟩
    rw [hw6] at H6 HR6
    clear k3 hm' ho hb5 h5 h6
    go_wp2
    try rw [hw6]
    clear hw6 x3 f3
    have R1 : Hid (∀ wx, Below w6.heap.size w6 wx → wx.cell? ⟨r, 1, none⟩ = some (.int .i64 S)) := Lib.hid (fun wx hx => by rw [← HS.out]; exact (H6.out.below hx).r1)
    have R3 : Hid (∀ wx, Below w6.heap.size w6 wx → wx.cell? ⟨r, 3, none⟩ = some (.slice A' m' c')) := Lib.hid (fun wx hx => by rw [HM'.out]; exact (H6.out.below hx).r3)
    go_loopw [6] (fun y wr => ∃ k : Nat, k ≤ M ∧ y = .int .i64 (k : Int) ∧ (∀ k', k' < k → Q + 64 + ((k' * size : Nat) : Int) ∉ cutL UL x) ∧ Below w6.heap.size w6 wr) (fun y _ => M - (intOf y).toNat)
    case atStart => exact ⟨0, Nat.zero_le _, rfl, fun k' h => absurd h (Nat.not_lt_zero _), Below.refl _ _⟩
    case round =>
      obtain ⟨k, hk, rfl, hv, hwr⟩ := hrel
      have HV := Lib.hid hv
      have HW := Lib.hid hwr
      have p1 := R1.out _ hwr
      have p3 := R3.out _ hwr
      clear hv hwr
      go_wp2_with fail
      refine (rmany_any size M _ HSM.out.1 HSM.out.2.2.1 S MM HS.out HMM.out).mono ?_
      rintro e w' ⟨rfl, hw⟩
      have hw2 := hw.symm
      clear hw
      subst hw2
      by_cases hkm : k < M
      · have k1 : decide ((k : Int) < MM) = true := decide_eq_true (by have := HMM.out; omega)
        obtain ⟨K, hK⟩ : ∃ K : Int, (k : Int) = K := ⟨_, rfl⟩
        have h60 : k * size ≤ 60 * 512 := Nat.mul_le_mul (by have := HSM.out; omega) HSM.out.2.1
        obtain ⟨X6, hX6⟩ : ∃ X6 : Int, Q + 64 = X6 := ⟨_, rfl⟩
        obtain ⟨Z, hZ⟩ : ∃ Z : Int, ((k * size : Nat) : Int) = Z := ⟨_, rfl⟩
        obtain ⟨Y, hY⟩ : ∃ Y : Int, X6 + Z = Y := ⟨_, rfl⟩
        have z1 : IntKind.i64.wrap (Q + 64) = X6 := by rw [IntKind.wrap_i64]; have := HQB.out; omega
        have z2 : IntKind.i64.wrap (K * S) = Z := by
          have e : K * S = ((k * size : Nat) : Int) := by rw [← hK, ← HS.out, Int.natCast_mul]
          rw [e, hZ, IntKind.wrap_i64]; omega
        have z3 : IntKind.i64.wrap (X6 + Z) = Y := by rw [IntKind.wrap_i64]; have := HQB.out; omega
        have zk : IntKind.i64.wrap (K + 1) = K + 1 := by rw [IntKind.wrap_i64]; have := HSM.out; omega
        have HY : Hid (Q + 64 + ((k * size : Nat) : Int) = Y) := Lib.hid (by rw [hX6, hZ, hY])
        have HK := Lib.hid hK
        have HKM := Lib.hid hkm
        rw [hK] at k1
        rw [hK]
        clear hK h60 hX6 hZ hY hkm hk
        have HS3 := Lib.hid (H6.out.below HW.out).ul.sl
        by_cases q : Y ∈ cutL UL x
        · have HQ := Lib.hid q
          have HQC : Hid (∀ n, Calls Tryd.prog 45 #[.slice A' m' c', .int .i64 Y] (wr.drewN n) fun e w' => e = .returned (.bool true) ∧ w' = wr.drewN n) := Lib.hid (fun n => has_r (cutL UL x) m' HM'.out (by have := HLM.out; omega) A' c' Y true (by simp [q]) _ (HS3.out.below (below_drewN (Below.refl _ _) _)))
          clear q
          go_wp2_with fail
          go_quiet ((first | (go_at_call 45; exact Calls.quiet_of_same (HQC.out _))))
          have HD : Hid (Below w6.heap.size w6 (wr.drewN nq)) := Lib.hid (below_drewN HW.out nq)
          go_wp2
          go_ret
          refine ⟨0, l, SL, cutL UL x, rfl, .some HX.out k HKM.out (by rw [HQD.out, HY.out]; exact HQ.out), ⟨_, _, _, _, _, _, _, _, H6.out.below HD.out⟩, H6.out.stepB HR6.out hbr HD.out⟩
        · have HQC : Hid (∀ n, Calls Tryd.prog 45 #[.slice A' m' c', .int .i64 Y] (wr.drewN n) fun e w' => e = .returned (.bool false) ∧ w' = wr.drewN n) := Lib.hid (fun n => has_r (cutL UL x) m' HM'.out (by have := HLM.out; omega) A' c' Y false (by simp [q]) _ (HS3.out.below (below_drewN (Below.refl _ _) _)))
          have HV2 : Hid (∀ k', k' < k + 1 → Q + 64 + ((k' * size : Nat) : Int) ∉ cutL UL x) := Lib.hid (fun k' h' => by
            by_cases e : k' = k
            · subst e; rw [HY.out]; exact q
            · exact HV.out k' (by omega))
          clear q
          go_wp2_with fail
          go_quiet ((first | (go_at_call 45; exact Calls.quiet_of_same (HQC.out _))))
          have HD : Hid (Below w6.heap.size w6 (wr.drewN nq)) := Lib.hid (below_drewN HW.out nq)
          go_wp2
          go_roundw
          case rel => exact ⟨k + 1, HKM.out, by rw [← HK.out]; go_num, HV2.out, HD.out⟩
          case measure => have := HKM.out; have := HK.out; (try simp [intOf]) <;> omega
      · have k1 : decide ((k : Int) < MM) = false := decide_eq_false (by have := HMM.out; omega)
        have HALL : Hid (∀ k', k' < M → x.tdiv 1024 * 1024 + 64 + ((k' * size : Nat) : Int) ∉ cutL UL x) := Lib.hid (fun k' h' => by rw [HQD.out]; exact HV.out k' (by omega))
        have h7 := H6.out.below HW.out
        have H7 := Lib.hid h7
        have HR7 := Lib.hid (H6.out.stepB HR6.out hbr HW.out)
        have p2 := h7.r2
        rw [HN1.out] at p2
        clear hkm hk p1 p3 h7
        go_wp2_with fail
        refine (cut_i SL n1 HN1.out.symm (by have := HL1.out; omega) S1 d1 Q _ H7.out.sl.sl).mono ?_
        rintro e w8 ⟨A8, m8, c8, rfl, hm8, ho8, hb8⟩
        have h8 := H7.out.below hb8
        have h9 := h8.setS (d := c8) (heldT_own ho8) hm8 (ownsRow_le ho8)
        have HR9 := Lib.hid (h8.stepR (H7.out.stepB HR7.out hbr hb8) hbr (gb_set (World.grownBy.refl _ _) 2 (.slice A8 m8 c8)))
        have x2 := h8.r2
        have f2 := h8.froz 2
        have x0 := h9.r0
        have H9 := Lib.hid h9
        obtain ⟨er, l', hc⟩ : ∃ er l', giveC top l Q = (er, l') := ⟨_, _, rfl⟩
        have HC := Lib.hid hc
        clear p2 hm8 ho8 hb8 h8 h9 hc
        go_wp2_with fail
        refine (rgive_any H9.out.rb HG.out HT.out Q).mono ?_
        rintro e w10 ⟨e1, rfl, l1, hr, ⟨B1, f1, B2, f2', hrb⟩, hg10⟩
        have he := hr.eq
        rw [HC.out] at he
        injection he with t1 t2
        subst t1 t2
        have H10 := Lib.hid (H9.out.turn hg10 hrb)
        have HR10 := Lib.hid (H9.out.stepG HR9.out hbg hg10)
        clear hr hrb hg10 x2 f2 x0
        go_wp2
        go_ret
        refine ⟨0, l', cutL SL Q, cutL UL x, rfl, ?_, ⟨_, _, _, _, _, _, _, _, H10.out⟩, HR10.out⟩
        have e1 := HQD.out
        have e2 := HC.out
        subst e1
        exact .all HX.out HALL.out er l' e2
  · have HX := Lib.hid hx
    clear h hg ht hs hs2 hM hb hl1 hl2 hn1 hn2 m1 m2 hx
    go_enter Tryd.func22, Tryd.ntmps22
    go_wp2_with fail
    refine (has_r UL n2 HN2.out.symm (by have := HL2.out; omega) S2 d2 x false (by simp [HX.out]) _ HH.out.ul.sl).mono ?_
    rintro e w' ⟨rfl, hw⟩
    have hw2 := hw.symm
    clear hw
    subst hw2
    go_wp2
    go_ret
    exact ⟨6, l, SL, UL, rfl, .no HX.out, ⟨_, _, _, _, _, _, _, _, HH.out⟩, RT.refl _⟩
end
end Go.Proofs.YtbadoihpbemjjaaDoor
