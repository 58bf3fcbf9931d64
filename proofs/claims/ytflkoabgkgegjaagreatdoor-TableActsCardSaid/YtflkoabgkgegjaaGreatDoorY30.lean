/- The reference's Give. Condition: its row is read. And what follows from it. -/
import Derived.Test.YtflkoabgkgegjaaGreatDoorY29
import Derived.Test.YtflkoabgkgegjaaGreatDoorY20
import Derived.Test.YtflkoabgkgegjaaGreatDoorY21
/- The reference's Give. Condition: its row is read. -/
namespace Go.Proofs.YtflkoabgkgegjaaGreatDoor
open Go.RowKit Go.Maps

section
variable {w w' : World} {r g size top M : Nat} {A1 A2 S1 S2 : Option Addr} {c1 c2 d1 d2 : Nat} {l : List Tl} {SL UL : List Int}
/-- what the reference's Give does -/
inductive RGv (top M size : Nat) (l : List Tl) (SL UL : List Int) (x : Int) : Int → List Tl → List Int → List Int → Prop
  | no (h : x ∉ UL) : RGv top M size l SL UL x 6 l SL UL
  | some (h : x ∈ UL) (k : Nat) (hk : k < M) (hu : x.tdiv 1024 * 1024 + 64 + ((k * size : Nat) : Int) ∈ cutL UL x) : RGv top M size l SL UL x 0 l SL (cutL UL x)
  | all (h : x ∈ UL) (hu : ∀ k, k < M → x.tdiv 1024 * 1024 + 64 + ((k * size : Nat) : Int) ∉ cutL UL x) (er : Int) (l' : List Tl) (hc : giveC top l (x.tdiv 1024 * 1024) = (er, l')) : RGv top M size l SL UL x 0 l' (cutL SL (x.tdiv 1024 * 1024)) (cutL UL x)
theorem cutL_len (L : List Int) (x : Int) : (cutL L x).length ≤ L.length := List.length_filter_le _ _
set_option maxRecDepth 100000 in
set_option maxHeartbeats 3200000 in
theorem rcgive (h : RC w r g size top A1 c1 A2 c2 l S1 d1 SL S2 d2 UL) (hg : Good top l) (ht : top ≤ 20) (hs : 16 ≤ size) (hs2 : size ≤ 512) (hM : M = 960 / size) (x : Int) (hb : x ∈ UL → 0 ≤ x ∧ x ≤ 1099511627776) (hl1 : SL.length ≤ 62914559) (hl2 : UL.length ≤ 62914560) (ok : Nat → Prop) (hbr : ok r) (hbg : ok g) :
    Calls Tryz.prog 82 #[.pointer (some ⟨r, 0, none⟩), .int .i64 x] w fun e w' => ∃ er l' SL' UL', e = .returned (.int .i64 er) ∧ RGv top M size l SL UL x er l' SL' UL' ∧ (∃ B1 e1 B2 e2 T1 f1 T2 f2, RC w' r g size top B1 e1 B2 e2 l' T1 f1 SL' T2 f2 UL') ∧ RT ok w w' := by
  obtain ⟨m1, m2⟩ := size_many hs hs2 hM
  obtain ⟨n1, hn1⟩ : ∃ n1, SL.length = n1 := ⟨_, rfl⟩
  obtain ⟨n2, hn2⟩ : ∃ n2, UL.length = n2 := ⟨_, rfl⟩
  have HH := Lib.hid h
  have HG := Lib.hid hg
  have HT := Lib.hid ht
  have HN1 := Lib.hid hn1
  have HN2 := Lib.hid hn2
  have HL1 : Hid (n1 ≤ 62914559) := Lib.hid (by omega)
  have HL2 : Hid (n2 ≤ 62914560) := Lib.hid (by omega)
  have HSM : Hid (16 ≤ size ∧ size ≤ 512 ∧ M = 960 / size ∧ 0 < M ∧ M ≤ 60) := Lib.hid ⟨hs, hs2, hM, m1, m2⟩
  have k3 := h.r3
  rw [hn2] at k3
  by_cases hx : x ∈ UL
  · obtain ⟨b1, b2⟩ := hb hx
    obtain ⟨S, hS⟩ : ∃ S : Int, (size : Int) = S := ⟨_, rfl⟩
    obtain ⟨MM, hMM⟩ : ∃ MM : Int, (M : Int) = MM := ⟨_, rfl⟩
    obtain ⟨D, hD⟩ : ∃ D : Int, x.tdiv 1024 = D := ⟨_, rfl⟩
    obtain ⟨Q, hQ⟩ : ∃ Q : Int, D * 1024 = Q := ⟨_, rfl⟩
    have hD2 := hD
    rw [Int.tdiv_eq_ediv_of_nonneg b1] at hD2
    have hQB : 0 ≤ Q ∧ Q ≤ 1099511627776 := by omega
    have zD : IntKind.i64.wrap D = D := by rw [IntKind.wrap_i64]; omega
    have zD2 : wrap64 D = D := by rw [wrap64]; omega
    have zQ : IntKind.i64.wrap (D * 1024) = Q := by rw [IntKind.wrap_i64]; omega
    have HX := Lib.hid hx
    have HS := Lib.hid hS
    have HMM := Lib.hid hMM
    have HQD : Hid (x.tdiv 1024 * 1024 = Q) := Lib.hid (by rw [hD, hQ])
    have HQB := Lib.hid hQB
    clear h hg ht hs hs2 hM hb hl1 hl2 hn1 hn2 hS hMM m1 m2 hx b1 b2 hD2 hQ hQB
    go_enter Tryz.func82, Tryz.ntmps82
    go_wp2_with fail
    refine (has_r UL n2 HN2.out.symm (by have := HL2.out; omega) S2 d2 x true (by simp [HX.out]) _ HH.out.ul.sl).mono ?_
    rintro e w' ⟨rfl, hw⟩
    have hw2 := hw.symm
    clear hw
    subst hw2
    go_wp2_with fail
    refine (cut_i UL n2 HN2.out.symm HL2.out S2 d2 x _ HH.out.ul.sl).mono ?_
    rintro e w5 ⟨A', m', c', rfl, hm', ho, hb5⟩
    have h5 := HH.out.below hb5
    have h6 := h5.setU (d := c') (heldT_own ho) hm' (ownsRow_le ho)
    have HR6 := Lib.hid (h5.stepR (HH.out.stepB (RT.refl _) hbr hb5) hbr (gb_set (World.grownBy.refl _ _) 3 (.slice A' m' c')))
    have x3 := h5.r3
    have f3 := h5.froz 3
    have H6 := Lib.hid h6
    have HM' := Lib.hid hm'
    have HLM : Hid (m' ≤ 62914560) := Lib.hid (by have := cutL_len UL x; have := HN2.out; have := HL2.out; omega)
    obtain ⟨w6, hw6⟩ : ∃ w6, w5.setCell ⟨r, 3, none⟩ (.slice A' m' c') = w6 := ⟨_, rfl⟩
    rw [hw6] at H6 HR6
    clear k3 hm' ho hb5 h5 h6
    go_wp2
    try rw [hw6]
    clear hw6 x3 f3
    have R1 : Hid (∀ wx, Below w6.heap.size w6 wx → wx.cell? ⟨r, 1, none⟩ = some (.int .i64 S)) := Lib.hid (fun wx hx => by rw [← HS.out]; exact (H6.out.below hx).r1)
    have R3 : Hid (∀ wx, Below w6.heap.size w6 wx → wx.cell? ⟨r, 3, none⟩ = some (.slice A' m' c')) := Lib.hid (fun wx hx => by rw [HM'.out]; exact (H6.out.below hx).r3)
    go_loopw [6] (fun y wr => ∃ k : Nat, k ≤ M ∧ y = .int .i64 (k : Int) ∧ (∀ k', k' < k → Q + 64 + ((k' * size : Nat) : Int) ∉ cutL UL x) ∧ Below w6.heap.size w6 wr) (fun y _ => M - (intOf y).toNat)
    case atStart => exact ⟨0, Nat.zero_le _, rfl, fun k' h => absurd h (Nat.not_lt_zero _), Below.refl _ _⟩
    case round =>
      obtain ⟨k, hk, rfl, hv, hwr⟩ := hrel
      have HV := Lib.hid hv
      have HW := Lib.hid hwr
      have p1 := R1.out _ hwr
      have p3 := R3.out _ hwr
      clear hv hwr
      go_wp2_with fail
      refine (rmany_any size M _ HSM.out.1 HSM.out.2.2.1 S MM HS.out HMM.out).mono ?_
      rintro e w' ⟨rfl, hw⟩
      have hw2 := hw.symm
      clear hw
      subst hw2
      by_cases hkm : k < M
      · have k1 : decide ((k : Int) < MM) = true := decide_eq_true (by have := HMM.out; omega)
        obtain ⟨K, hK⟩ : ∃ K : Int, (k : Int) = K := ⟨_, rfl⟩
        have h60 : k * size ≤ 60 * 512 := Nat.mul_le_mul (by have := HSM.out; omega) HSM.out.2.1
        obtain ⟨X6, hX6⟩ : ∃ X6 : Int, Q + 64 = X6 := ⟨_, rfl⟩
        obtain ⟨Z, hZ⟩ : ∃ Z : Int, ((k * size : Nat) : Int) = Z := ⟨_, rfl⟩
        obtain ⟨Y, hY⟩ : ∃ Y : Int, X6 + Z = Y := ⟨_, rfl⟩
        have z1 : IntKind.i64.wrap (Q + 64) = X6 := by rw [IntKind.wrap_i64]; have := HQB.out; omega
        have z2 : IntKind.i64.wrap (K * S) = Z := by
          have e : K * S = ((k * size : Nat) : Int) := by rw [← hK, ← HS.out, Int.natCast_mul]
          rw [e, hZ, IntKind.wrap_i64]; omega
        have z3 : IntKind.i64.wrap (X6 + Z) = Y := by rw [IntKind.wrap_i64]; have := HQB.out; omega
        have zk : IntKind.i64.wrap (K + 1) = K + 1 := by rw [IntKind.wrap_i64]; have := HSM.out; omega
        have HY : Hid (Q + 64 + ((k * size : Nat) : Int) = Y) := Lib.hid (by rw [hX6, hZ, hY])
        have HK := Lib.hid hK
        have HKM := Lib.hid hkm
        rw [hK] at k1
        rw [hK]
        clear hK h60 hX6 hZ hY hkm hk
        have HS3 := Lib.hid (H6.out.below HW.out).ul.sl
        by_cases q : Y ∈ cutL UL x
        · have HQ := Lib.hid q
          have HQC : Hid (∀ n, Calls Tryz.prog 78 #[.slice A' m' c', .int .i64 Y] (wr.drewN n) fun e w' => e = .returned (.bool true) ∧ w' = wr.drewN n) := Lib.hid (fun n => has_r (cutL UL x) m' HM'.out (by have := HLM.out; omega) A' c' Y true (by simp [q]) _ (HS3.out.below (below_drewN (Below.refl _ _) _)))
          clear q
          go_wp2_with fail
          go_quiet ((first | (go_at_call 78; exact Calls.quiet_of_same (HQC.out _))))
          have HD : Hid (Below w6.heap.size w6 (wr.drewN nq)) := Lib.hid (below_drewN HW.out nq)
          go_wp2
          go_ret
          refine ⟨0, l, SL, cutL UL x, rfl, .some HX.out k HKM.out (by rw [HQD.out, HY.out]; exact HQ.out), ⟨_, _, _, _, _, _, _, _, H6.out.below HD.out⟩, H6.out.stepB HR6.out hbr HD.out⟩
        · have HQC : Hid (∀ n, Calls Tryz.prog 78 #[.slice A' m' c', .int .i64 Y] (wr.drewN n) fun e w' => e = .returned (.bool false) ∧ w' = wr.drewN n) := Lib.hid (fun n => has_r (cutL UL x) m' HM'.out (by have := HLM.out; omega) A' c' Y false (by simp [q]) _ (HS3.out.below (below_drewN (Below.refl _ _) _)))
          have HV2 : Hid (∀ k', k' < k + 1 → Q + 64 + ((k' * size : Nat) : Int) ∉ cutL UL x) := Lib.hid (fun k' h' => by
            by_cases e : k' = k
            · subst e; rw [HY.out]; exact q
            · exact HV.out k' (by omega))
          clear q
          go_wp2_with fail
          go_quiet ((first | (go_at_call 78; exact Calls.quiet_of_same (HQC.out _))))
          have HD : Hid (Below w6.heap.size w6 (wr.drewN nq)) := Lib.hid (below_drewN HW.out nq)
          go_wp2
          go_roundw
          case rel => exact ⟨k + 1, HKM.out, by rw [← HK.out]; go_num, HV2.out, HD.out⟩
          case measure => have := HKM.out; have := HK.out; (try simp [intOf]) <;> omega
      · have k1 : decide ((k : Int) < MM) = false := decide_eq_false (by have := HMM.out; omega)
        have HALL : Hid (∀ k', k' < M → x.tdiv 1024 * 1024 + 64 + ((k' * size : Nat) : Int) ∉ cutL UL x) := Lib.hid (fun k' h' => by rw [HQD.out]; exact HV.out k' (by omega))
        have h7 := H6.out.below HW.out
        have H7 := Lib.hid h7
        have HR7 := Lib.hid (H6.out.stepB HR6.out hbr HW.out)
        have p2 := h7.r2
        rw [HN1.out] at p2
        clear hkm hk p1 p3 h7
        go_wp2_with fail
        refine (cut_i SL n1 HN1.out.symm (by have := HL1.out; omega) S1 d1 Q _ H7.out.sl.sl).mono ?_
        rintro e w8 ⟨A8, m8, c8, rfl, hm8, ho8, hb8⟩
        have h8 := H7.out.below hb8
        have h9 := h8.setS (d := c8) (heldT_own ho8) hm8 (ownsRow_le ho8)
        have HR9 := Lib.hid (h8.stepR (H7.out.stepB HR7.out hbr hb8) hbr (gb_set (World.grownBy.refl _ _) 2 (.slice A8 m8 c8)))
        have x2 := h8.r2
        have f2 := h8.froz 2
        have x0 := h9.r0
        have H9 := Lib.hid h9
        obtain ⟨er, l', hc⟩ : ∃ er l', giveC top l Q = (er, l') := ⟨_, _, rfl⟩
        have HC := Lib.hid hc
        clear p2 hm8 ho8 hb8 h8 h9 hc
        go_wp2_with fail
        refine (rgive_any H9.out.rb HG.out HT.out Q).mono ?_
        rintro e w10 ⟨e1, rfl, l1, hr, ⟨B1, f1, B2, f2', hrb⟩, hg10⟩
        have he := hr.eq
        rw [HC.out] at he
        injection he with t1 t2
        subst t1 t2
        have H10 := Lib.hid (H9.out.turn hg10 hrb)
        have HR10 := Lib.hid (H9.out.stepG HR9.out hbg hg10)
        clear hr hrb hg10 x2 f2 x0
        go_wp2
        go_ret
        refine ⟨0, l', cutL SL Q, cutL UL x, rfl, ?_, ⟨_, _, _, _, _, _, _, _, H10.out⟩, HR10.out⟩
        have e1 := HQD.out
        have e2 := HC.out
        subst e1
        exact .all HX.out HALL.out er l' e2
  · have HX := Lib.hid hx
    clear h hg ht hs hs2 hM hb hl1 hl2 hn1 hn2 m1 m2 hx
    go_enter Tryz.func82, Tryz.ntmps82
    go_wp2_with fail
    refine (has_r UL n2 HN2.out.symm (by have := HL2.out; omega) S2 d2 x false (by simp [HX.out]) _ HH.out.ul.sl).mono ?_
    rintro e w' ⟨rfl, hw⟩
    have hw2 := hw.symm
    clear hw
    subst hw2
    go_wp2
    go_ret
    exact ⟨6, l, SL, UL, rfl, .no HX.out, ⟨_, _, _, _, _, _, _, _, HH.out⟩, RT.refl _⟩
end
end Go.Proofs.YtflkoabgkgegjaaGreatDoor
/- The plain law of a table in the arena's bytes. No condition. -/
namespace Go.Proofs.YtflkoabgkgegjaaGreatDoor
open Ar

/-- the word that begins there -/
def wdF (f : Nat → Nat) (p : Nat) : Nat := sumB f p 8
theorem wdF_lt {f : Nat → Nat} (h : ∀ i, f i < 256) (p : Nat) : wdF f p < 18446744073709551616 := by
  have := sumB_lt f p h 8
  have e : (256 : Nat) ^ 8 = 18446744073709551616 := by decide
  rw [e] at this
  exact this
theorem wd_store_out {f : Nat → Nat} {at_ k p : Nat} {l : List Nat} (h : p + 8 ≤ at_ ∨ at_ + k ≤ p) : wdF (storeF f at_ l k) p = wdF f p :=
  sumB_congr _ _ _ _ fun j hj => by unfold storeF; rw [if_neg (by omega)]
theorem wd_store_in {f : Nat → Nat} {at_ i : Nat} {l : List Nat} (hi : i < l.length) (hx : l.getD i 0 < 18446744073709551616) : wdF (storeF f at_ l (l.length * 8)) (at_ + 8 * i) = l.getD i 0 := by
  have h := sumB_word (storeF f at_ l (l.length * 8)) (at_ + 8 * i) (l.getD i 0) (fun j hj => by
    unfold storeF
    rw [if_pos (by omega)]
    have e1 : (at_ + 8 * i + j - at_) / 8 = i := by omega
    have e2 : (at_ + 8 * i + j - at_) % 8 = j := by omega
    rw [e1, e2]) 8 (Nat.le_refl 8)
  have e : (256 : Nat) ^ 8 = 18446744073709551616 := by decide
  rw [e, Nat.mod_eq_of_lt hx] at h
  exact h
theorem wd_fill_out {f : Nat → Nat} {at_ n p : Nat} (h : p + 8 ≤ at_ ∨ at_ + n ≤ p) : wdF (fillF f at_ n 0) p = wdF f p :=
  sumB_congr _ _ _ _ fun j hj => by unfold fillF; rw [if_neg (by omega)]
theorem wd_fill_in {f : Nat → Nat} {at_ n p : Nat} (h1 : at_ ≤ p) (h2 : p + 8 ≤ at_ + n) : wdF (fillF f at_ n 0) p = 0 := by
  have h := sumB_word (fillF f at_ n 0) p 0 (fun j hj => by
    unfold fillF
    rw [if_pos (by omega), Nat.zero_div, Nat.zero_mod]) 8 (Nat.le_refl 8)
  rw [Nat.zero_mod] at h
  exact h
/-- the leaves' ranges: in the arena, none over another one, nor over the root -/
structure DJ (at_ : Nat) (lf : Nat → Nat) : Prop where
  root : at_ + 128 ≤ 65536 ∧ at_ % 16 = 0
  leaf : ∀ j, j < 16 → lf j ≠ 0 → lf j + 256 ≤ 65536 ∧ lf j % 16 = 0 ∧ 64 ≤ lf j ∧ (at_ + 128 ≤ lf j ∨ lf j + 256 ≤ at_)
  two : ∀ i j, i < 16 → j < 16 → i ≠ j → lf i ≠ 0 → lf j ≠ 0 → lf i + 256 ≤ lf j ∨ lf j + 256 ≤ lf i
/-- the table's entries as the arena's bytes say them -/
structure TRel (f : Nat → Nat) (at_ : Nat) (lf A B : Nat → Nat) : Prop where
  lt : ∀ i, f i < 256
  root : ∀ j, j < 16 → wdF f (at_ + 8 * j) = lf j
  ent : ∀ j i, j < 16 → i < 16 → lf j ≠ 0 → wdF f (lf j + 16 * i) = A (16 * j + i) ∧ wdF f (lf j + 16 * i + 8) = B (16 * j + i)
  no : ∀ j i, j < 16 → i < 16 → lf j = 0 → A (16 * j + i) = 0 ∧ B (16 * j + i) = 0
theorem TRel.A_lt {f : Nat → Nat} {at_ : Nat} {lf A B : Nat → Nat} (h : TRel f at_ lf A B) (s : Nat) (hs : s < 256) : A s < 18446744073709551616 ∧ B s < 18446744073709551616 := by
  have e : s = 16 * (s / 16) + s % 16 := by omega
  by_cases q : lf (s / 16) = 0
  · have := h.no (s / 16) (s % 16) (by omega) (by omega) q
    rw [← e] at this
    rw [this.1, this.2]
    omega
  · have := h.ent (s / 16) (s % 16) (by omega) (by omega) q
    rw [← e] at this
    rw [← this.1, ← this.2]
    exact ⟨wdF_lt h.lt _, wdF_lt h.lt _⟩
theorem storeF_lt {f : Nat → Nat} (h : ∀ i, f i < 256) (at_ k : Nat) (l : List Nat) : ∀ i, storeF f at_ l k i < 256 := fun i => by
  unfold storeF
  split
  · exact Nat.mod_lt _ (by omega)
  · exact h i
theorem fillF_lt {f : Nat → Nat} (h : ∀ i, f i < 256) (at_ n : Nat) : ∀ i, fillF f at_ n 0 i < 256 := fun i => by
  unfold fillF
  split
  · omega
  · exact h i
/-- an entry is stored in its leaf -/
theorem TRel.put {f : Nat → Nat} {at_ : Nat} {lf A B : Nat → Nat} (h : TRel f at_ lf A B) (d : DJ at_ lf) (s a b : Nat) (hs : s < 256) (hl : lf (s / 16) ≠ 0) (ha : a < 18446744073709551616) (hb : b < 18446744073709551616) :
    TRel (storeF f (lf (s / 16) + s % 16 * 16) [a, b] 16) at_ lf (updF A s a) (updF B s b) := by
  have hd := d.leaf (s / 16) (by omega) hl
  refine ⟨storeF_lt h.lt _ _ _, fun j hj => ?_, fun j i hj hi hn => ?_, fun j i hj hi hz => ?_⟩
  · rw [wd_store_out (by omega)]
    exact h.root j hj
  · by_cases e : 16 * j + i = s
    · have e1 : s / 16 = j := by omega
      have e2 : s % 16 = i := by omega
      rw [e, updF_same, updF_same, e1, e2, Nat.mul_comm i 16]
      have q1 := wd_store_in (f := f) (at_ := lf j + 16 * i) (i := 0) (l := [a, b]) (by simp) ha
      have q2 := wd_store_in (f := f) (at_ := lf j + 16 * i) (i := 1) (l := [a, b]) (by simp) hb
      exact ⟨q1, q2⟩
    · rw [updF_other _ _ e, updF_other _ _ e]
      have hk := h.ent j i hj hi hn
      by_cases e1 : s / 16 = j
      · subst e1
        have e2 : s % 16 ≠ i := by omega
        rw [wd_store_out (by omega), wd_store_out (by omega)]
        exact hk
      · have := d.two (s / 16) j (by omega) hj e1 hl hn
        rw [wd_store_out (by omega), wd_store_out (by omega)]
        exact hk
  · have e : 16 * j + i ≠ s := fun e => hl (by rw [show s / 16 = j by omega]; exact hz)
    rw [updF_other _ _ e, updF_other _ _ e]
    exact h.no j i hj hi hz
/-- a leaf comes: its bytes are filled with zeros, the root's word is set -/
theorem TRel.leaf {f : Nat → Nat} {at_ : Nat} {lf A B : Nat → Nat} (h : TRel f at_ lf A B) (d : DJ at_ lf) (j x : Nat) (hj : j < 16) (hl : lf j = 0) (d' : DJ at_ (updF lf j x)) (hx : x ≠ 0) (hx2 : x < 18446744073709551616) :
    TRel (storeF (fillF f x 256 0) (at_ + 8 * j) [x] 8) at_ (updF lf j x) A B := by
  have hd := d'.leaf j hj (by rw [updF_same]; exact hx)
  rw [updF_same] at hd
  refine ⟨storeF_lt (fillF_lt h.lt _ _) _ _ _, fun i hi => ?_, fun i k hi hk hn => ?_, fun i k hi hk hz => ?_⟩
  · by_cases e : i = j
    · subst e
      rw [updF_same]
      exact wd_store_in (f := fillF f x 256 0) (at_ := at_ + 8 * i) (i := 0) (l := [x]) (by simp) hx2
    · rw [updF_other _ _ e, wd_store_out (by omega), wd_fill_out (by omega)]
      exact h.root i hi
  · by_cases e : i = j
    · subst e
      rw [updF_same, wd_store_out (by omega), wd_store_out (by omega), wd_fill_in (by omega) (by omega), wd_fill_in (by omega) (by omega)]
      have := h.no i k hi hk hl
      exact ⟨this.1.symm, this.2.symm⟩
    · have hn' := hn
      rw [updF_other _ _ e] at hn' ⊢
      have h2 := d'.two i j hi hj e hn (by rw [updF_same]; exact hx)
      rw [updF_same, updF_other _ _ e] at h2
      have h3 := d.leaf i hi hn'
      rw [wd_store_out (by omega), wd_store_out (by omega), wd_fill_out (by omega), wd_fill_out (by omega)]
      exact h.ent i k hi hk hn'
  · by_cases e : i = j
    · subst e
      rw [updF_same] at hz
      exact absurd hz hx
    · rw [updF_other _ _ e] at hz
      exact h.no i k hi hk hz
/-- a leaf that has no entry goes: the root's word is set -/
theorem TRel.gone {f : Nat → Nat} {at_ : Nat} {lf A B : Nat → Nat} (h : TRel f at_ lf A B) (d : DJ at_ lf) (j : Nat) (hj : j < 16) (hl : lf j ≠ 0) (hz : ∀ i, i < 16 → A (16 * j + i) = 0 ∧ B (16 * j + i) = 0) :
    TRel (storeF f (at_ + 8 * j) [0] 8) at_ (updF lf j 0) A B := by
  refine ⟨storeF_lt h.lt _ _ _, fun i hi => ?_, fun i k hi hk hn => ?_, fun i k hi hk hz2 => ?_⟩
  · by_cases e : i = j
    · subst e
      rw [updF_same]
      exact wd_store_in (f := f) (at_ := at_ + 8 * i) (i := 0) (l := [0]) (by decide) (by decide)
    · rw [updF_other _ _ e, wd_store_out (by omega)]
      exact h.root i hi
  · by_cases e : i = j
    · subst e
      rw [updF_same] at hn
      exact absurd rfl hn
    · rw [updF_other _ _ e] at hn ⊢
      have h3 := d.leaf i hi hn
      rw [wd_store_out (by omega), wd_store_out (by omega)]
      exact h.ent i k hi hk hn
  · by_cases e : i = j
    · subst e
      exact hz k hk
    · rw [updF_other _ _ e] at hz2
      exact h.no i k hi hk hz2
theorem DJ.less {at_ : Nat} {lf : Nat → Nat} (d : DJ at_ lf) (j : Nat) : DJ at_ (updF lf j 0) := by
  have ne : ∀ i, updF lf j 0 i ≠ 0 → i ≠ j ∧ updF lf j 0 i = lf i := fun i h => by
    by_cases e : i = j
    · subst e
      rw [updF_same] at h
      exact absurd rfl h
    · exact ⟨e, updF_other _ _ e⟩
  refine ⟨d.root, fun i hi h => ?_, fun i k hi hk hne h1 h2 => ?_⟩
  · obtain ⟨_, e⟩ := ne i h
    rw [e] at h ⊢
    exact d.leaf i hi h
  · obtain ⟨_, e1⟩ := ne i h1
    obtain ⟨_, e2⟩ := ne k h2
    rw [e1] at h1 ⊢
    rw [e2] at h2 ⊢
    exact d.two i k hi hk hne h1 h2
theorem page_one {P : List Pg} (h : RisesQ P) {x y : Pg} (hx : x ∈ P) (hy : y ∈ P) (e : x.q = y.q) : x = y := by
  obtain ⟨i, hi, rfl⟩ := List.getElem_of_mem hx
  obtain ⟨j, hj, rfl⟩ := List.getElem_of_mem hy
  rcases Nat.lt_trichotomy i j with q | q | q
  · have := h.at hi hj q
    omega
  · subst q; rfl
  · have := h.at hj hi q
    omega
/-- two places of the classes don't overlap -/
theorem places_apart {l : List Tl} {P : Nat → List Pg} (h : FLay l P) (hr : ∀ k ∈ cls, RisesQ (P k)) {j k a b : Nat} (hj : j ∈ cls) (hk : k ∈ cls) (ha : (a : Int) ∈ usedC (mC j) (szC j) (P j)) (hb : (b : Int) ∈ usedC (mC k) (szC k) (P k)) (hne : j ≠ k ∨ a ≠ b) : a + szC j ≤ b ∨ b + szC k ≤ a := by
  obtain ⟨p, hp, i, hi, _, e1⟩ := mem_usedC.1 ha
  obtain ⟨q, hq, m, hm, _, e2⟩ := mem_usedC.1 hb
  have f1 := place_end (cls_facts j hj).2.2.1 hi
  have f2 := place_end (cls_facts k hk).2.2.1 hm
  by_cases e : p.q = q.q
  · have ejk : j = k := by
      refine Decidable.byContradiction fun hjk => ?_
      exact h.apart j hj k hk hjk p hp q hq e
    subst ejk
    have epq := page_one (hr j hj) hp hq e
    subst epq
    have hab : a ≠ b := by
      rcases hne with h1 | h1
      · exact absurd rfl h1
      · exact h1
    rcases Nat.lt_trichotomy i m with g | g | g
    · have := Nat.mul_le_mul_right (szC j) (show i + 1 ≤ m from g)
      rw [Nat.add_mul, Nat.one_mul] at this
      omega
    · subst g
      omega
    · have := Nat.mul_le_mul_right (szC j) (show m + 1 ≤ i from g)
      rw [Nat.add_mul, Nat.one_mul] at this
      omega
  · omega
end Go.Proofs.YtflkoabgkgegjaaGreatDoor
