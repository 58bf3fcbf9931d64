/- The reference's pool: Get, Put, beside the program's. Condition: its rows are read. And what follows from it. -/
import Derived.Test.YtflkoabgkgegjaaGreatDoorY37
import Derived.Test.YtflkoabgkgegjaaGreatDoorY32
/- The reference's pool: Get, Put, beside the program's. Condition: its rows are read. -/
namespace Go.Proofs.YtflkoabgkgegjaaGreatDoor
open Go.RowKit Go.Maps

/-- where the classes' slabs, and used places, begin -/
def SLf (P : Nat → List Pg) (j : Nat) : List Int := slabsC (P j)
def ULf (P : Nat → List Pg) (j : Nat) : List Int := usedC (mC j) (szC j) (P j)
theorem SLf_upd (P : Nat → List Pg) (k : Nat) (P' : List Pg) : updF (SLf P) k (slabsC P') = SLf (updF P k P') := by
  funext j
  unfold SLf updF
  split <;> rfl
theorem ULf_upd (P : Nat → List Pg) (k : Nat) (P' : List Pg) : updF (ULf P) k (usedC (mC k) (szC k) P') = ULf (updF P k P') := by
  funext j
  unfold ULf updF
  split
  · rename_i e
    subst e
    rfl
  · rfl
section
variable {B : Nat} {w w' : World} {rp rt fq g : Nat} {r : Nat → Nat} {lr : List Tl} {SL UL : Nat → List Int} {L C : Nat}
set_option maxRecDepth 100000 in
theorem rget_arg (X : Int) (hX : costI X = 0) (x : Int) (w : World) : Calls Tryz.prog 15 #[.pointer (some ⟨rp, 0, none⟩), .int .i64 x, .int .i64 X] w fun e w' => e = .returned (.tuple #[.int .i64 0, .int .i64 1]) ∧ w' = w := by
  have HC := Lib.hid (rpcost X 0 (by rw [hX]; rfl) w)
  clear hX
  go_enter Tryz.func15, Tryz.ntmps15
  go_wp2_with fail
  refine HC.out.mono ?_
  rintro e w' ⟨rfl, hw⟩
  have hw2 := hw.symm
  clear hw
  subst hw2
  go_wp2
  go_ret2
  exact ⟨rfl, rfl⟩
set_option maxRecDepth 100000 in
set_option maxHeartbeats 3200000 in
theorem rget_quota (h : RP B w rp rt fq g r lr SL UL L C) (hle : C ≤ L ∧ L ≤ 65536) {k : Nat} (hk : k ∈ cls) (K : Int) (hK : (k : Int) = K) (hq : L < C + szC k) : Calls Tryz.prog 15 #[.pointer (some ⟨rp, 0, none⟩), .int .i64 0, .int .i64 K] w fun e w' => e = .returned (.tuple #[.int .i64 0, .int .i64 5]) ∧ Below w.heap.size w w' := by
  have hcf := cls_facts k hk
  have HH := Lib.hid h
  have HLE := Lib.hid hle
  have HC : Hid ((costI K : Int) = ((szC k : Nat) : Int)) := Lib.hid (by rw [← hK, cost_cls hk])
  obtain ⟨z, hz⟩ : ∃ z : Int, ((szC k : Nat) : Int) = z := ⟨_, rfl⟩
  have HZ := Lib.hid hz
  have HQ := Lib.hid hq
  have t1 : (z == 0) = false := by simp only [beq_eq_false_iff_ne, ne_eq]; omega
  have r2 := h.r2
  rw [hz] at HC
  clear h hle hk hcf hz hK hq
  go_enter Tryz.func15, Tryz.ntmps15
  go_wp2_with fail
  refine (rpcost K z HC.out _).mono ?_
  rintro e w' ⟨rfl, hw⟩
  have hw2 := hw.symm
  clear hw
  subst hw2
  go_wp2_with fail
  have hd := HH.out.below (Below.refl _ _).drew
  go_region_held3 (fun w' => w'.cell? ⟨rp, 2, none⟩ = some (.pointer (some ⟨rt, 0, none⟩))) (first | (exact RP.r2 (by assumption))) (first | (go_at_call 46; (with_reducible refine (rpcost K z HC.out _).mono ?_); rintro e w8 ⟨rfl, rfl⟩) | (go_at_call 52; (with_reducible refine (rqcharge_no (RP.q (by assumption)) HLE.out.1 (by have := HLE.out.2; omega) (szC k) HQ.out z HZ.out.symm).mono ?_); rintro e w9 ⟨rfl, h9⟩; have h10 := RP.below (by assumption) h9))
  all_goals
    have HB := Lib.hid ((Below.refl w.heap.size w).drew.trans (h9.mono (Nat.le_refl _)))
    clear hd h9 h10
    go_wp2
    go_ret2
    exact ⟨rfl, HB.out⟩
end
section
variable {W w0 w1 w w' : World} {pb tb qm fb ga gb b : Nat} {c : Nat → Nat} {L n n' : Nat} {l : List Tl} {P : Nat → List Pg} {f : Nat → Nat} {C : Nat} {B rp rt fq g : Nat} {r : Nat → Nat}
theorem PL.short (h : PL W w pb tb qm fb ga gb b c L n l P f C) {k : Nat} (hk : k ∈ cls) : (P k).length ≤ 64 := by
  refine rise_len (h.rise hk) fun p hp => ?_
  have h1 := (blks_lt ((h.lay.lay k hk).mem p hp)).2
  have h2 := h.good.all
  simp only at h1
  have : (2 : Nat) ^ 6 = 64 := by decide
  omega
theorem PL.ushort (h : PL W w pb tb qm fb ga gb b c L n l P f C) {k : Nat} (hk : k ∈ cls) : (usedC (mC k) (szC k) (P k)).length ≤ 3840 := by
  have h1 := usedC_length (mC k) (szC k) (P k)
  have h2 : (P k).length * mC k ≤ 64 * 60 := Nat.mul_le_mul (h.short hk) (cls_facts k hk).2.2.2.2.2.2.2
  omega
set_option maxRecDepth 100000 in
set_option maxHeartbeats 6400000 in
theorem rget {k : Nat} {x er : Int} {l' : List Tl} {P' : List Pg} {f' f2 : Nat → Nat} {C' : Nat} (h0 : PL W w0 pb tb qm fb ga gb b c L n l P f C) (hk : k ∈ cls) (hg : GetS L k l (P k) f C x er l' P' f' C') (h1 : PL W w1 pb tb qm fb ga gb b c L n' l' (updF P k P') f2 C')
    (h : RP B w rp rt fq g r l (SLf P) (ULf P) L C) (K : Int) (hK : (k : Int) = K) :
    Calls Tryz.prog 15 #[.pointer (some ⟨rp, 0, none⟩), .int .i64 0, .int .i64 K] w fun e w' => e = .returned (.tuple #[.int .i64 x, .int .i64 er]) ∧ RP B w' rp rt fq g r l' (SLf (updF P k P')) (ULf (updF P k P')) L C' ∧ RY B w w' ∧ KeepR w w' := by
  by_cases hq : L < C + szC k
  · have he : x = 0 ∧ er = 5 ∧ l' = l ∧ P' = P k ∧ C' = C := by
      cases hg with
      | quota _ => exact ⟨rfl, rfl, rfl, rfl, rfl⟩
      | none h2 => omega
      | yes h2 => omega
    obtain ⟨rfl, rfl, rfl, rfl, rfl⟩ := he
    refine (rget_quota h h0.le hk K hK hq).mono ?_
    rintro e w' ⟨rfl, hb⟩
    rw [updF_eta]
    exact ⟨rfl, h.below hb, .more (.refl _) hb, KeepR.of_below hb⟩
  have hts : TakeS 6 (mC k) (szC k) l (P k) x er l' P' ∧ C + szC k ≤ L ∧ ((er = 0 ∧ C' = C + szC k) ∨ (er = 4 ∧ C' = C)) := by
    cases hg with
    | quota h2 => exact absurd h2 hq
    | none h2 hf ht => exact ⟨.none hf ht, h2, .inr ⟨rfl, rfl⟩⟩
    | yes h2 a ha l' P' ht => exact ⟨ht, h2, .inl ⟨rfl, rfl⟩⟩
  have hcf := cls_facts k hk
  have HH := Lib.hid h
  have H0 := Lib.hid h0
  have H1 := Lib.hid h1
  have HKC := Lib.hid hk
  have HTS := Lib.hid hts
  have HC : Hid ((costI K : Int) = ((szC k : Nat) : Int)) := Lib.hid (by rw [← hK, cost_cls hk])
  obtain ⟨z, hz⟩ : ∃ z : Int, ((szC k : Nat) : Int) = z := ⟨_, rfl⟩
  have HSZ := Lib.hid hz
  have t1 : (z == 0) = false := by simp only [beq_eq_false_iff_ne, ne_eq]; omega
  have i0 : (0 : Int) ≤ K := by omega
  have i1 : K < 8 := by omega
  have HKN : Hid (K.toNat = k) := Lib.hid (by omega)
  have r2 := h.r2
  rw [hz] at HC
  clear h h0 h1 hg hk hcf hz hK hq hts
  go_enter Tryz.func15, Tryz.ntmps15
  go_wp2_with fail
  refine (rpcost K z HC.out _).mono ?_
  rintro e w' ⟨rfl, hw⟩
  have hw2 := hw.symm
  clear hw
  subst hw2
  go_wp2_with fail
  have hd := HH.out.below (Below.refl _ _).drew
  go_region_held3 (fun w' => w'.cell? ⟨rp, 2, none⟩ = some (.pointer (some ⟨rt, 0, none⟩))) (first | (exact RP.r2 (by assumption))) (first | (go_at_call 46; (with_reducible refine (rpcost K z HC.out _).mono ?_); rintro e w8 ⟨rfl, rfl⟩) | (go_at_call 52; (with_reducible refine (rqcharge_yes (RP.q (by assumption)) (by have := H0.out.le.2; omega) (szC k) HTS.out.2.1 z HSZ.out.symm).mono ?_); rintro e w9 ⟨rfl, hq9, hg9⟩; obtain ⟨h10, y10, k10⟩ := (RP.charged (by assumption) hg9 hq9)))
  all_goals
    have H10 := Lib.hid h10
    have Y10 := Lib.hid ((RY.more (.refl _) (Below.refl w.heap.size w).drew).trans y10)
    have K10 := Lib.hid ((KeepR.of_below (Below.refl w.heap.size w).drew).trans k10)
    have rk : w9.cell? ⟨rp, 3 + K.toNat, none⟩ = some (.pointer (some ⟨r k, 0, none⟩)) := by rw [HKN.out]; exact h10.rk HKC.out
    clear hd hq9 hg9 h10 y10 k10 r2
    go_wp2_with fail
    have hcf := cls_facts k HKC.out
    refine (rcf_take H10.out.f HKC.out H0.out.good (fun y hy => by
      obtain ⟨p, hp, rfl⟩ := mem_slabsC.1 hy
      have h1 := (blks_lt ((H0.out.lay.lay k HKC.out).mem p hp)).2
      have h2 := H0.out.good.all
      simp only at h1
      have : (2 : Nat) ^ 6 = 64 := by decide
      omega) (by have := H0.out.short HKC.out; unfold SLf; rw [slabsC_length]; omega) (by have := H0.out.ushort HKC.out; unfold ULf; omega)).mono ?_
    rintro e w11 ⟨at2, er2, l2, SL', UL', rfl, hR, hf11, hrt⟩
    have hr' := H1.out.rise HKC.out
    rw [updF_same] at hr'
    obtain ⟨e1, e2, e3, e4, e5⟩ := take_join HTS.out.1 (H0.out.lay.lay k HKC.out) (H0.out.rise HKC.out) hr' (H0.out.wf HKC.out) hcf.2.2.1 (by omega) hcf.2.2.2.2.2.2.1 hR
    subst e1 e2 e3 e4 e5
    rw [SLf_upd, ULf_upd] at hf11
    have hn := H10.out.new
    have h12 : RP B w11 rp rt fq g r l2 (SLf (updF P k P')) (ULf (updF P k P')) L (C + szC k) := ⟨hrt.keep _ _ _ H10.out.row (by decide) (by decide), H10.out.q.turned hrt, hf11, hn⟩
    have H12 := Lib.hid h12
    have Y12 := Lib.hid (Y10.out.trans (RY.of_rt hrt (fun x hx => by
      rcases hx with rfl | rfl
      · exact hn.2.2 k HKC.out
      · exact hn.2.1)))
    have K12 := Lib.hid (K10.out.trans (KeepR.of_rt hrt))
    clear hcf hR hf11 hrt hr' hn h12 rk
    have hcase := HTS.out.2.2
    rcases hcase with ⟨q, hc⟩ | ⟨q, hc⟩
    · have t2 : (er2 != 0) = false := by simp [q]
      go_wp2
      go_ret2
      rw [hc, q]
      exact ⟨rfl, H12.out, Y12.out, K12.out⟩
    · have t2 : (er2 != 0) = true := by simp [q]
      have HCC := Lib.hid hc
      have r2 := H12.out.r2
      clear q hc
      go_wp2_with fail
      have hd := H12.out.below (Below.refl _ _).drew
      go_region_held3 (fun w' => w'.cell? ⟨rp, 2, none⟩ = some (.pointer (some ⟨rt, 0, none⟩))) (first | (exact RP.r2 (by assumption))) (first | (go_at_call 46; (with_reducible refine (rpcost K z HC.out _).mono ?_); rintro e w13 ⟨rfl, rfl⟩) | (go_at_call 54; (with_reducible refine (rqrefund (RP.q (by assumption)) (by have := HTS.out.2.1; have := H0.out.le; omega) (szC k) (by omega) z HSZ.out.symm).mono ?_); rintro e w14 ⟨rfl, hq14, hg14⟩; obtain ⟨h15, y15, k15⟩ := (RP.charged (C' := C) (by assumption) hg14 (by rw [Nat.add_sub_cancel] at hq14; exact hq14))))
      all_goals
        have H15 := Lib.hid h15
        have Y15 := Lib.hid ((Y12.out.trans (RY.more (.refl _) (Below.refl w11.heap.size w11).drew)).trans y15)
        have K15 := Lib.hid ((K12.out.trans (KeepR.of_below (Below.refl w11.heap.size w11).drew)).trans k15)
        clear hd hq14 hg14 h15 y15 k15
        go_wp2
        go_ret2
        rw [HCC.out]
        exact ⟨rfl, H15.out, Y15.out, K15.out⟩
end
end Go.Proofs.YtflkoabgkgegjaaGreatDoor
/- The reference's pool: Put of a used place. Condition: its rows are read. -/
namespace Go.Proofs.YtflkoabgkgegjaaGreatDoor
open Go.RowKit Go.Maps
section
variable {W w0 w1 w w' : World} {pb tb qm fb ga gb b : Nat} {c : Nat → Nat} {L n n' : Nat} {l : List Tl} {P : Nat → List Pg} {f : Nat → Nat} {C : Nat} {B rp rt fq g : Nat} {r : Nat → Nat}
set_option maxRecDepth 100000 in
set_option maxHeartbeats 6400000 in
theorem rput {k : Nat} {X : Int} {l' : List Tl} {P' : List Pg} {f' : Nat → Nat} {C' : Nat} (h0 : PL W w0 pb tb qm fb ga gb b c L n l P f C) (hk : k ∈ cls) (hX : X ∈ usedC (mC k) (szC k) (P k)) (hq : szC k ≤ C) (hC' : C' = C - szC k) (h1 : PL W w1 pb tb qm fb ga gb b c L n' l' (updF P k P') f' C')
    (hu : ∀ y, y ∈ usedC (mC k) (szC k) P' ↔ y ∈ usedC (mC k) (szC k) (P k) ∧ y ≠ X)
    (hc : (l' = l ∧ P'.map Pg.q = (P k).map Pg.q) ∨ ∃ P1 p P2, P k = P1 ++ p :: P2 ∧ P' = P1 ++ P2 ∧ ∃ a d, l = a ++ (0, false) :: d ∧ p.q = span a ∧ l' = melt 6 a.reverse 0 d)
    (h : RP B w rp rt fq g r l (SLf P) (ULf P) L C) (K : Int) (hK : (k : Int) = K) :
    Calls Tryz.prog 55 #[.pointer (some ⟨rp, 0, none⟩), .int .i64 0, .int .i64 K, .int .i64 X] w fun e w' => e = .returned (.int .i64 0) ∧ RP B w' rp rt fq g r l' (SLf (updF P k P')) (ULf (updF P k P')) L C' ∧ RY B w w' ∧ KeepR w w' := by
  have hcf := cls_facts k hk
  obtain ⟨a, ha, hab, _⟩ := used_place (h0.lay.lay k hk) h0.good hcf.2.2.1 (sz16 hk) hX
  have HXB : Hid (0 ≤ X ∧ X ≤ 1099511627776) := Lib.hid (by omega)
  have HH := Lib.hid h
  have H0 := Lib.hid h0
  have H1 := Lib.hid h1
  have HKC := Lib.hid hk
  have HU := Lib.hid hu
  have HCS := Lib.hid hc
  have HXM := Lib.hid hX
  have HQ := Lib.hid hq
  have HC' := Lib.hid hC'
  have HHS := Lib.hid (rcf_has h.f hk (by have := h0.ushort hk; unfold ULf; omega) X true (by simp only [true_iff]; exact hX))
  have HC : Hid ((costI K : Int) = ((szC k : Nat) : Int)) := Lib.hid (by rw [← hK, cost_cls hk])
  obtain ⟨z, hz⟩ : ∃ z : Int, ((szC k : Nat) : Int) = z := ⟨_, rfl⟩
  have HSZ := Lib.hid hz
  have t1 : (z == 0) = false := by simp only [beq_eq_false_iff_ne, ne_eq]; omega
  have i0 : (0 : Int) ≤ K := by omega
  have i1 : K < 8 := by omega
  have HKN : Hid (K.toNat = k) := Lib.hid (by omega)
  have r2 := h.r2
  have rk0 : w.cell? ⟨rp, 3 + K.toNat, none⟩ = some (.pointer (some ⟨r k, 0, none⟩)) := by rw [HKN.out]; exact h.rk hk
  rw [hz] at HC
  clear h h0 h1 hk hu hc hX hcf hz hK hq ha hab hC'
  go_enter Tryz.func55, Tryz.ntmps55
  go_wp2_with fail
  refine (rpcost K z HC.out _).mono ?_
  rintro e w' ⟨rfl, hw⟩
  have hw2 := hw.symm
  clear hw
  subst hw2
  go_wp2_with fail
  refine HHS.out.mono ?_
  rintro e w' ⟨rfl, hw⟩
  have hw2 := hw.symm
  clear hw
  subst hw2
  go_wp2_with fail
  have hd := HH.out.below (Below.refl _ _).drew
  go_region_held3 (fun w' => w'.cell? ⟨rp, 2, none⟩ = some (.pointer (some ⟨rt, 0, none⟩))) (first | (exact RP.r2 (by assumption))) (first | (go_at_call 46; (with_reducible refine (rpcost K z HC.out _).mono ?_); rintro e w8 ⟨rfl, rfl⟩) | (go_at_call 54; (with_reducible refine (rqrefund (RP.q (by assumption)) (by have := H0.out.le; omega) (szC k) HQ.out z HSZ.out.symm).mono ?_); rintro e w9 ⟨rfl, hq9, hg9⟩; obtain ⟨h10, y10, k10⟩ := (RP.charged (by assumption) hg9 hq9)))
  all_goals
    have H10 := Lib.hid h10
    have Y10 := Lib.hid ((RY.more (.refl _) (Below.refl w.heap.size w).drew).trans y10)
    have K10 := Lib.hid ((KeepR.of_below (Below.refl w.heap.size w).drew).trans k10)
    have rk : w9.cell? ⟨rp, 3 + K.toNat, none⟩ = some (.pointer (some ⟨r k, 0, none⟩)) := by rw [HKN.out]; exact h10.rk HKC.out
    clear hd hq9 hg9 h10 y10 k10 r2 rk0
    go_wp2_with fail
    have hcf := cls_facts k HKC.out
    refine (rcf_give H10.out.f HKC.out H0.out.good X (fun _ => HXB.out) (by have := H0.out.short HKC.out; unfold SLf; rw [slabsC_length]; omega) (by have := H0.out.ushort HKC.out; unfold ULf; omega)).mono ?_
    rintro e w11 ⟨er2, l2, SL', UL', rfl, hR, hf11, hrt⟩
    have hr' := H1.out.rise HKC.out
    have hl' := H1.out.lay.lay k HKC.out
    rw [updF_same] at hr' hl'
    obtain ⟨e1, e2, e3, e4⟩ := give_join (H0.out.lay.lay k HKC.out) hl' (H0.out.rise HKC.out) hr' hcf.2.2.1 (by omega) HXM.out HU.out HCS.out hR
    subst e1 e2 e3 e4
    rw [SLf_upd, ULf_upd] at hf11
    have hn := H10.out.new
    have h12 : RP B w11 rp rt fq g r l2 (SLf (updF P k P')) (ULf (updF P k P')) L C' := ⟨hrt.keep _ _ _ H10.out.row (by decide) (by decide), by rw [HC'.out]; exact H10.out.q.turned hrt, hf11, hn⟩
    have H12 := Lib.hid h12
    have Y12 := Lib.hid (Y10.out.trans (RY.of_rt hrt (fun x hx => by
      rcases hx with rfl | rfl
      · exact hn.2.2 k HKC.out
      · exact hn.2.1)))
    have K12 := Lib.hid (K10.out.trans (KeepR.of_rt hrt))
    clear hcf hR hf11 hrt hr' hl' hn h12 rk
    go_wp2
    go_ret
    exact ⟨rfl, H12.out, Y12.out, K12.out⟩
end
end Go.Proofs.YtflkoabgkgegjaaGreatDoor
/- The reference's New. No condition. -/
namespace Go.Proofs.YtflkoabgkgegjaaGreatDoor
open Go.RowKit Go.Maps

theorem RB.turnP {w w' : World} {g top r : Nat} {ds : Array Value} {A1 A2 : Option Addr} {c1 c2 : Nat} {LF LU : List (Nat × Nat)} (h : RB w g top A1 c1 LF A2 c2 LU) (hg : w.grownBy w' (some r)) (hd : w.heap[r]? = some (.cells ds 58 (0, 0))) : RB w' g top A1 c1 LF A2 c2 LU :=
  ⟨h.row.turn hg hd (show 138 ≠ 58 by decide), h.f.turn hg hd (by rw [tyOf_bCells]; decide), h.u.turn hg hd (by rw [tyOf_bCells]; decide), h.cf, h.cu⟩
theorem rpRow_step (g rt : Nat) (c : Nat → Nat) (m x : Nat) (hm : m < 8) (v : Value) (hv : cP (updF c m x) (m + 1) m = v) : (rpRow g rt c m).setIfInBounds (3 + m) v = rpRow g rt (updF c m x) (m + 1) := by
  subst hv
  have : m = 0 ∨ m = 1 ∨ m = 2 ∨ m = 3 ∨ m = 4 ∨ m = 5 ∨ m = 6 ∨ m = 7 := by omega
  unfold rpRow
  rcases this with rfl | rfl | rfl | rfl | rfl | rfl | rfl | rfl <;>
  · simp only [List.setIfInBounds_toArray, Nat.reduceAdd, List.set_cons_succ, List.set_cons_zero]
    (first | rw [← cP_more c _ 0 x (by decide)] | skip) <;> (first | rw [← cP_more c _ 1 x (by decide)] | skip) <;> (first | rw [← cP_more c _ 2 x (by decide)] | skip) <;> (first | rw [← cP_more c _ 3 x (by decide)] | skip) <;> (first | rw [← cP_more c _ 4 x (by decide)] | skip) <;> (first | rw [← cP_more c _ 5 x (by decide)] | skip) <;> (first | rw [← cP_more c _ 6 x (by decide)] | skip) <;> (first | rw [← cP_more c _ 7 x (by decide)] | skip)
/-- the reference's pool whose first caches are made -/
structure RN (B : Nat) (w : World) (rp rt fq g : Nat) (A1 : Option Addr) (c1 : Nat) (A2 : Option Addr) (c2 : Nat) (r : Nat → Nat) (L m : Nat) : Prop where
  row : w.heap[rp]? = some (.cells (rpRow g rt r m) 58 (0, 0))
  q : QR w rt fq (L : Int) 0
  rb : RB w g 6 A1 c1 [(0, 6)] A2 c2 []
  cs : ∀ j, 1 ≤ j → j < m → w.heap[r j]? = some (.cells (rRow g (szC j : Int) none 0 0 none 0 0) 94 (0, 0)) ∧ B ≤ r j
  inj : ∀ i j, 1 ≤ i → i < m → 1 ≤ j → j < m → i ≠ j → r i ≠ r j
  new : B ≤ fq ∧ B ≤ g ∧ B ≤ rp
section
variable {B : Nat} {w w' : World} {rp rt fq g : Nat} {A1 A2 : Option Addr} {c1 c2 : Nat} {r : Nat → Nat} {L m : Nat}
theorem RN.below (h : RN B w rp rt fq g A1 c1 A2 c2 r L m) (hb : Below w.heap.size w w') : RN B w' rp rt fq g A1 c1 A2 c2 r L m :=
  ⟨(hb.block _ (blt h.row)).trans h.row, h.q.below hb, h.rb.below hb, fun j h1 h2 => ⟨(hb.block _ (blt (h.cs j h1 h2).1)).trans (h.cs j h1 h2).1, (h.cs j h1 h2).2⟩, h.inj, h.new⟩
theorem RN.step (h : RN B w rp rt fq g A1 c1 A2 c2 r L m) (hm : m < 8) (x : Nat) (hx : w.heap[x]? = some (.cells (rRow g (szC m : Int) none 0 0 none 0 0) 94 (0, 0)) ∧ B ≤ x ∧ ∀ j, 1 ≤ j → j < m → r j ≠ x) (h1m : 1 ≤ m) :
    RN B (w.setCell ⟨rp, 3 + m, none⟩ (.pointer (some ⟨x, 0, none⟩))) rp rt fq g A1 c1 A2 c2 (updF r m x) L (m + 1) := by
  have hg : w.grownBy (w.setCell ⟨rp, 3 + m, none⟩ (.pointer (some ⟨x, 0, none⟩))) (some rp) := gb_set (World.grownBy.refl _ _) _ _
  have st : ∀ {y : Nat} {ds : Array Value} {u : TypeId}, w.heap[y]? = some (.cells ds u (0, 0)) → u ≠ 58 → (w.setCell ⟨rp, 3 + m, none⟩ (.pointer (some ⟨x, 0, none⟩))).heap[y]? = some (.cells ds u (0, 0)) := fun hd ht => (hg.block _ (blt hd) (fun e2 => two_types hd h.row ht (by injection e2))).trans hd
  have hrow := heap_setCell_same w rp (3 + m) _ _ (.pointer (some ⟨x, 0, none⟩)) h.row
  refine ⟨?_, ⟨st h.q.tree (by decide), st h.q.fac (by decide)⟩, h.rb.turnP hg h.row, fun j h1 h2 => ?_, fun i j h1 h2 h3 h4 hne => ?_, h.new⟩
  · rw [← rpRow_step g rt r m x hm _ (by unfold cP; rw [if_pos ⟨h1m, Nat.lt_succ_self m⟩, updF_same])]
    exact hrow
  · by_cases e : j = m
    · subst e
      rw [updF_same]
      exact ⟨st hx.1 (by decide), hx.2.1⟩
    · rw [updF_other _ _ e]
      exact ⟨st (h.cs j h1 (by omega)).1 (by decide), (h.cs j h1 (by omega)).2⟩
  · by_cases e : i = m
    · subst e
      rw [updF_same, updF_other _ _ (fun e => hne e.symm)]
      exact fun e2 => hx.2.2 j h3 (by omega) e2.symm
    · rw [updF_other _ _ e]
      by_cases e2 : j = m
      · subst e2
        rw [updF_same]
        exact hx.2.2 i h1 (by omega)
      · rw [updF_other _ _ e2]
        exact h.inj i j h1 (by omega) h3 (by omega) hne
theorem RN.done (h : RN B w rp rt fq g A1 c1 A2 c2 r L 8) : RP B w rp rt fq g r [(6, true)] (SLf fun _ => []) (ULf fun _ => []) L 0 := by
  refine ⟨h.row, h.q, ⟨A1, c1, A2, c2, fun k hk => ?_, fun j hj k hk hne => ?_⟩, h.new.1, h.new.2.1, fun k hk => ?_⟩
  · have hcf := cls_facts k hk
    have hc := h.cs k (by omega) (by omega)
    exact ⟨none, 0, none, 0, h.rb, hc.1, HeldT.nil _ _, HeldT.nil _ _, Nat.le_refl _, Nat.le_refl _⟩
  · have h1 := cls_facts j hj
    have h2 := cls_facts k hk
    exact h.inj j k (by omega) (by omega) (by omega) (by omega) hne
  · have hcf := cls_facts k hk
    exact (h.cs k (by omega) (by omega)).2
theorem RN.cell (h : RN B w rp rt fq g A1 c1 A2 c2 r L m) (j : Nat) (hj : j < 8) : (∃ v, w.cell? ⟨rp, 3 + j, none⟩ = some v) ∧ w.frozen? ⟨rp, 3 + j, none⟩ = false :=
  ⟨⟨_, (cell_of_row _ _ _ _ _ _ h.row).trans (rpRow_at _ _ _ _ j hj)⟩, frozen_of_row _ _ _ _ _ h.row⟩
end
set_option maxRecDepth 100000 in
set_option maxHeartbeats 6400000 in
theorem rpnew (L : Nat) (LL : Int) (hLL : (L : Int) = LL) (w : World) (B : Nat) (hB : B ≤ w.heap.size) :
    Calls Tryz.prog 13 #[.int .i64 65536, .int .i64 LL] w fun e w' => ∃ rp rt fq g r, e = .returned (.pointer (some ⟨rp, 0, none⟩)) ∧ RP B w' rp rt fq g r [(6, true)] (SLf fun _ => []) (ULf fun _ => []) L 0 ∧ Below w.heap.size w w' ∧ w.heap.size ≤ rp := by
  have HLL := Lib.hid hLL
  have HB := Lib.hid hB
  clear hLL hB
  go_enter Tryz.func13, Tryz.ntmps13
  go_wp2_with fail
  refine (rnew_any 65536 6 65536 rfl (by decide) (by omega) _).mono ?_
  rintro e w1 ⟨g, A1, c1, A2, c2, rfl, n1, hrb, hb1⟩
  have HRB := Lib.hid hrb
  have HB1 := Lib.hid hb1
  have HN : Hid (w.heap.size ≤ g) := Lib.hid n1
  clear hrb hb1 n1
  go_wp2_with fail
  refine (rqnew LL w1).mono ?_
  rintro e w3 ⟨rt, fq, rfl, n2, n3, hq, hb3⟩
  have HQ := Lib.hid hq
  have HB3 := Lib.hid hb3
  have HN3 : Hid (w1.heap.size ≤ fq) := Lib.hid n3
  clear hq hb3 n2 n3
  have b4 : Below w3.heap.size w3 (w3.alloc (.cells #[.int .i64 65536, .pointer (some ⟨g, 0, none⟩), .pointer (some ⟨rt, 0, none⟩), .pointer none, .pointer none, .pointer none, .pointer none, .pointer none, .pointer none, .pointer none, .pointer none] 58)) := (Below.refl _ w3).alloc (Nat.le_refl _) _
  have x4 := heap_alloc_new w3 (.cells #[.int .i64 65536, .pointer (some ⟨g, 0, none⟩), .pointer (some ⟨rt, 0, none⟩), .pointer none, .pointer none, .pointer none, .pointer none, .pointer none, .pointer none, .pointer none, .pointer none] 58)
  obtain ⟨rp, hrp⟩ : ∃ rp, w3.heap.size = rp := ⟨_, rfl⟩
  have hlo : w.heap.size ≤ w3.heap.size := Nat.le_trans HB1.out.size HB3.out.size
  have HLO := Lib.hid hlo
  rw [hrp] at x4
  go_wp2_with fail
  generalize w3.alloc (.cells #[.int .i64 65536, .pointer (some ⟨g, 0, none⟩), .pointer (some ⟨rt, 0, none⟩), .pointer none, .pointer none, .pointer none, .pointer none, .pointer none, .pointer none, .pointer none, .pointer none] 58) = w4 at b4 x4 ⊢
  have hP : RN B w4 rp rt fq g A1 c1 A2 c2 (fun _ => 0) L 1 := ⟨x4, by rw [HLL.out]; exact HQ.out.below b4, (HRB.out.below HB3.out).below b4, fun j h1 h2 => absurd h2 (by omega), fun i j h1 h2 => absurd h2 (by omega), ⟨by have := HN3.out; have := HB1.out.size; have := HB.out; omega, by have := HN.out; have := HB.out; omega, by have := HB.out; omega⟩⟩
  have HP := Lib.hid hP
  have HBB : Hid (Below w.heap.size w w4) := Lib.hid ((HB1.out.trans (HB3.out.mono HB1.out.size)).trans (b4.mono hlo))
  have HRP : Hid (w.heap.size ≤ rp) := Lib.hid (by omega)
  clear b4 x4 hP hrp hlo HQ HRB
  go_loopw [6] (fun v6 wr => ∃ (k : Nat) (r : Nat → Nat), 1 ≤ k ∧ k ≤ 8 ∧ v6 = .int .i64 (k : Int) ∧ RN B wr rp rt fq g A1 c1 A2 c2 r L k ∧ Below w.heap.size w wr) (fun v6 _ => 8 - (intOf v6).toNat)
  case atStart => exact ⟨1, fun _ => 0, Nat.le_refl _, by omega, rfl, HP.out, HBB.out⟩
  case round =>
    obtain ⟨k, r, hk1, hk, rfl, h5, hb5⟩ := hrel
    clear HP HBB
    have H5 := Lib.hid h5
    have HB5 := Lib.hid hb5
    have HK1 := Lib.hid hk1
    by_cases q : k < 8
    · have j1 : decide ((k : Int) < 8) = true := decide_eq_true (by omega)
      have r1 : wr.cell? ⟨rp, 1, none⟩ = some (.pointer (some ⟨g, 0, none⟩)) := (cell_of_row _ _ 1 _ _ _ h5.row).trans rfl
      obtain ⟨Z, hZe⟩ : ∃ Z : Int, ((szC k : Nat) : Int) = Z := ⟨_, rfl⟩
      have HKC : Hid (k ∈ cls) := Lib.hid (by simp only [cls, List.mem_cons, List.not_mem_nil, or_false]; omega)
      have HC := Lib.hid (fun w => rpcost (k : Int) Z (by rw [cost_cls HKC.out, hZe]) w)
      have HZE := Lib.hid hZe
      have HKQ := Lib.hid q
      have ba : Below wr.heap.size wr (wr.alloc (.cells #[.pointer (some ⟨g, 0, none⟩), .int .i64 Z, .slice none 0 0, .slice none 0 0] 94)) := (Below.refl _ _).alloc (Nat.le_refl _) _
      have xa := heap_alloc_new wr (.cells #[.pointer (some ⟨g, 0, none⟩), .int .i64 Z, .slice none 0 0, .slice none 0 0] 94)
      obtain ⟨⟨v8, hv8⟩, hf8⟩ := (h5.below ba).cell k q
      have BA := Lib.hid ba
      have XA := Lib.hid xa
      clear h5 hZe q hk ba xa hb5 hk1
      have i0 : (0 : Int) ≤ (k : Int) := by omega
      have i1 : (k : Int) < 8 := by have := HKQ.out; omega
      go_wp2_with fail
      go_region_law (first | (go_simp; go_at_call 46; (with_reducible refine (HC.out _).mono ?_); rintro e w8 ⟨rfl, rfl⟩))
      all_goals
        have hP := ((H5.out.below BA.out).step HKQ.out wr.heap.size ⟨by rw [XA.out, ← HZE.out]; rfl, Nat.le_trans HB.out HB5.out.size, fun j h1 h2 e => by
          have := blt (H5.out.cs j h1 h2).1
          omega⟩ HK1.out).below (Below.refl _ _).drew
        have HP := Lib.hid hP
        have HBN := Lib.hid ((HB5.out.trans (BA.out.mono HB5.out.size)).setCell (p := ⟨rp, 3 + k, none⟩) HRP.out (.pointer (some ⟨wr.heap.size, 0, none⟩))).drew
        have zk : IntKind.i64.wrap ((k : Int) + 1) = (k : Int) + 1 := by rw [IntKind.wrap_i64]; have := HKQ.out; omega
        clear hP hv8 hf8 r1
        go_wp2
        go_roundw
        case rel => exact ⟨k + 1, _, by omega, HKQ.out, by go_num, HP.out, HBN.out⟩
        case measure => have := HKQ.out; (try simp [intOf]) <;> omega
    · have j1 : decide ((k : Int) < 8) = false := decide_eq_false (by omega)
      have e8 : k = 8 := by omega
      subst e8
      clear h5 hk q
      go_wp2
      go_ret
      exact ⟨rp, rt, fq, g, r, rfl, H5.out.done, HB5.out, HRP.out⟩
end Go.Proofs.YtflkoabgkgegjaaGreatDoor
