/- The pool's Get, where the limit allows it. Condition: the pool's state, and the tables hold what their texts say. And what follows from it. -/
import Derived.Test.YtflkoabgkgegjaaDoorY31
/- The pool's Get, where the limit allows it. Condition: the pool's state, and the tables hold what their texts say. -/
namespace Go.Proofs.YtflkoabgkgegjaaDoor
open Go.RowKit Go.Maps

/-- what Get does: where it begins, an error's number, tiles, pages of the class, bytes, what is charged -/
inductive GetS (L : Nat) (k : Nat) (l : List Tl) (P : List Pg) (f : Nat → Nat) (C : Nat) : Int → Int → List Tl → List Pg → (Nat → Nat) → Nat → Prop
  | quota (h : L < C + szC k) : GetS L k l P f C 0 5 l P f C
  | none (h : C + szC k ≤ L) (hf : ∀ x ∈ P, FullP (mC k) x) (ht : takeC 6 l 0 = (0, 4, l)) : GetS L k l P f C 0 4 l P f C
  | yes (h : C + szC k ≤ L) (a : Nat) (ha : a + szC k ≤ 65536) (l' : List Tl) (P' : List Pg) (ht : TakeS 6 (mC k) (szC k) l P (a : Int) 0 l' P') : GetS L k l P f C (a : Int) 0 l' P' (Ar.fillF f a (szC k) 0) (C + szC k)
theorem TakeS.fail {top M size : Nat} {l l' : List Tl} {P P' : List Pg} {x er : Int} (h : TakeS top M size l P x er l' P') (hne : er ≠ 0) : (∀ x ∈ P, FullP M x) ∧ takeC top l 0 = (0, 4, l) ∧ x = 0 ∧ er = 4 ∧ l' = l ∧ P' = P := by
  cases h with
  | old => exact absurd rfl hne
  | none hf hc => exact ⟨hf, hc, rfl, rfl, rfl, rfl⟩
  | new => exact absurd rfl hne
theorem fill_int (w : World) (ga gb N : Nat) (f : Nat → Nat) (a n : Nat) (A B : Int) (hA : (a : Int) = A) (hB : (n : Int) = B) (ha : a + n ≤ N) (h : Ar.ArAt w ga gb N f) :
    Calls Tryd.prog 29 #[.pointer (some ⟨ga, 0, none⟩), .int .i64 A, .int .i64 B, .int .u8 0] w fun e w' => e = .returned (.int .i64 0) ∧ Ar.ArAt w' ga gb N (Ar.fillF f a n 0) ∧ w.grownBy w' (some gb) := by
  subst hA hB
  exact Ar.fill_yes w ga gb N f a n 0 ha (by decide) h
section
variable {W w w' : World} {pb tb qm fb ga gb b : Nat} {c : Nat → Nat} {L n : Nat} {l : List Tl} {P : Nat → List Pg} {f : Nat → Nat} {C : Nat}
set_option maxRecDepth 100000 in
set_option maxHeartbeats 6400000 in
theorem pget_fits (h : PL W w pb tb qm fb ga gb b c L n l P f C) (hZ : TabZ W) (hC : TabC W) (hn : n < 1000) {k : Nat} (hk : k ∈ cls) (K : Int) (hK : (k : Int) = K) (hq : C + szC k ≤ L) :
    Calls Tryd.prog 8 #[.pointer (some ⟨pb, 0, none⟩), .int .i64 0, .int .i64 K] w fun e w' => ∃ x er l' P' f' C', e = .returned (.tuple #[.int .i64 x, .int .i64 er]) ∧ GetS L k l (P k) f C x er l' P' f' C' ∧ PL W w' pb tb qm fb ga gb b c L (n + 1) l' (updF P k P') f' C' ∧ KeepP w w' := by
  have hcf := cls_facts k hk
  have HH := Lib.hid h
  have HT : Hid (∀ wx, Below W.heap.size W wx → TabC wx) := Lib.hid (fun wx hx => hC.below hC.lt hx)
  have HZ := Lib.hid hZ
  have HN := Lib.hid hn
  have HKC := Lib.hid hk
  have HC : Hid ((costI K : Int) = ((szC k : Nat) : Int)) := Lib.hid (by rw [← hK, cost_cls hk])
  obtain ⟨z, hz⟩ : ∃ z : Int, ((szC k : Nat) : Int) = z := ⟨_, rfl⟩
  have HSZ := Lib.hid hz
  have HQ := Lib.hid hq
  have t1 : (z == 0) = false := by simp only [beq_eq_false_iff_ne, ne_eq]; omega
  have i0 : (0 : Int) ≤ K := by omega
  have i1 : K < 8 := by omega
  have HKN : Hid (K.toNat = k) := Lib.hid (by omega)
  have r0 := h.r0
  rw [hz] at HC
  clear h hC hZ hn hk hcf hz hK hq
  go_enter Tryd.func8, Tryd.ntmps8
  go_wp2_with fail
  refine (pcost K _ (HT.out _ HH.out.way) z HC.out).mono ?_
  rintro e w' ⟨rfl, hw⟩
  have hw2 := hw.symm
  clear hw
  subst hw2
  go_wp2_with fail
  have hd := HH.out.below (Below.refl _ _).drew
  have hTd : TabC w.drew := (HT.out w HH.out.way :)
  go_region_held3 (fun w' => w'.cell? ⟨pb, 0, none⟩ = some (.pointer (some ⟨tb, 0, none⟩))) (first | (exact PL.r0 (by assumption))) (first | (go_at_call 25; (with_reducible refine (pcost K _ hTd z HC.out).mono ?_); rintro e w8 ⟨rfl, rfl⟩) | (go_at_call 26; (with_reducible refine (qcharge_yes (PL.qu (by assumption)) (by have := HH.out.le.2; omega) (szC k) HQ.out z HSZ.out.symm).mono ?_); rintro e w9 ⟨rfl, hq9, hg9⟩; obtain ⟨h10, hk10⟩ := (PL.charged (by assumption) hg9 hq9 HQ.out)))
  all_goals
    have H10 := Lib.hid h10
    have HK10 := Lib.hid ((KeepP.of_below (Below.refl w.heap.size w).drew).trans hk10)
    have rk : w9.cell? ⟨pb, 3 + K.toNat, none⟩ = some (.pointer (some ⟨c k, 0, none⟩)) := by rw [HKN.out]; exact h10.rk HKC.out
    clear hd hTd hq9 hg9 h10 hk10 r0
    go_wp2_with fail
    obtain ⟨K', u1, u2⟩ := H10.out.use HKC.out
    have hcf := cls_facts k HKC.out
    refine (take_s u1 HZ.out HN.out hcf.1 hcf.2.1 hcf.2.2.1 (H10.out.lay.lay k HKC.out)).mono ?_
    rintro e w11 ⟨x, er, l', P', rfl, hts, h11⟩
    obtain ⟨h12, h13⟩ := u2 _ _ _ _ h11 (H10.out.lay.take HKC.out hts (H10.out.wf HKC.out))
    have H12 := Lib.hid h12
    have HK12 := Lib.hid (HK10.out.trans h13.p)
    have HTS := Lib.hid hts
    have HL12 := Lib.hid (h12.lay.lay k HKC.out)
    have hus := hts.used (H10.out.lay.lay k HKC.out) (H10.out.rise HKC.out) (H10.out.wf HKC.out) hcf.2.2.1 (by omega) hcf.2.2.2.2.2.2.1
    have HUS := Lib.hid hus
    clear u1 u2 hcf hts h11 h12 h13 rk hus
    by_cases q : er = 0
    · have t2 : (er != 0) = false := by simp [q]
      have hmem : x ∈ usedC (mC k) (szC k) P' := by
        rcases HUS.out with ⟨e1, _⟩ | ⟨_, _, h3⟩
        · omega
        · exact (h3 x).2 (.inr rfl)
      rw [updF_same] at HL12
      obtain ⟨a, ha, hb, _⟩ := used_place HL12.out H12.out.good (cls_facts k HKC.out).2.2.1 (sz16 HKC.out) hmem
      have HA := Lib.hid ha
      have HB := Lib.hid hb
      have HE := Lib.hid q
      have r2 := H12.out.r2
      clear ha hb q hmem
      go_wp2_with fail
      have hd := H12.out.below (Below.refl _ _).drew
      have hTd : TabC w11.drew := (HT.out w11 H12.out.way :)
      go_region_held3 (fun w' => w'.cell? ⟨pb, 2, none⟩ = some (.pointer (some ⟨ga, 0, none⟩))) (first | (exact PL.r2 (by assumption))) (first | (go_at_call 25; (with_reducible refine (pcost K _ hTd z HC.out).mono ?_); rintro e w13 ⟨rfl, rfl⟩) | (go_at_call 29; (with_reducible refine (fill_int _ ga gb 65536 f a (szC k) x z HA.out.symm HSZ.out HB.out (PL.ar (by assumption))).mono ?_); rintro e w14 ⟨rfl, hq14, hg14⟩; obtain ⟨h15, hk15⟩ := (PL.wrote (by assumption) hg14 hq14)))
      all_goals
        have H15 := Lib.hid h15
        have HK15 := Lib.hid ((HK12.out.trans (KeepP.of_below (Below.refl w11.heap.size w11).drew)).trans hk15)
        clear hd hTd hq14 hg14 h15 hk15
        go_wp2
        go_ret2
        refine ⟨x, 0, l', P', _, _, rfl, ?_, H15.out, HK15.out⟩
        have e1 := HA.out
        have e2 := HTS.out
        have e3 := HE.out
        subst e1 e3
        exact .yes HQ.out a HB.out l' P' e2
    · have t2 : (er != 0) = true := by simp [q]
      have HE := Lib.hid q
      have r0 := H12.out.r0
      clear q
      go_wp2_with fail
      have hd := H12.out.below (Below.refl _ _).drew
      have hTd : TabC w11.drew := (HT.out w11 H12.out.way :)
      go_region_held3 (fun w' => w'.cell? ⟨pb, 0, none⟩ = some (.pointer (some ⟨tb, 0, none⟩))) (first | (exact PL.r0 (by assumption))) (first | (go_at_call 25; (with_reducible refine (pcost K _ hTd z HC.out).mono ?_); rintro e w13 ⟨rfl, rfl⟩) | (go_at_call 28; (with_reducible refine (qrefund (PL.qu (by assumption)) (by have := H12.out.le; omega) (szC k) (by omega) z HSZ.out.symm).mono ?_); rintro e w14 ⟨rfl, hq14, hg14⟩; obtain ⟨h15, hk15⟩ := (PL.charged (C' := C) (by assumption) hg14 (by rw [Nat.add_sub_cancel] at hq14; exact hq14) (by have := HQ.out; omega))))
      all_goals
        have H15 := Lib.hid h15
        have HK15 := Lib.hid ((HK12.out.trans (KeepP.of_below (Below.refl w11.heap.size w11).drew)).trans hk15)
        clear hd hTd hq14 hg14 h15 hk15
        go_wp2
        go_ret2
        refine ⟨0, er, l', P', _, _, rfl, ?_, H15.out, HK15.out⟩
        obtain ⟨e1, e2, e3, e4, e5, e6⟩ := HTS.out.fail HE.out
        subst e3 e4 e5 e6
        exact .none HQ.out e1 e2
theorem pget (h : PL W w pb tb qm fb ga gb b c L n l P f C) (hZ : TabZ W) (hC : TabC W) (hn : n < 1000) {k : Nat} (hk : k ∈ cls) (K : Int) (hK : (k : Int) = K) :
    Calls Tryd.prog 8 #[.pointer (some ⟨pb, 0, none⟩), .int .i64 0, .int .i64 K] w fun e w' => ∃ x er l' P' f' C', e = .returned (.tuple #[.int .i64 x, .int .i64 er]) ∧ GetS L k l (P k) f C x er l' P' f' C' ∧ PL W w' pb tb qm fb ga gb b c L (n + 1) l' (updF P k P') f' C' ∧ KeepP w w' := by
  by_cases hq : L < C + szC k
  · refine (pget_quota h hC hk K hK hq).mono ?_
    rintro e w' ⟨rfl, hb⟩
    refine ⟨0, 5, l, P k, f, C, rfl, .quota hq, ?_, KeepP.of_below hb⟩
    rw [updF_eta]
    exact (h.below hb).monon (Nat.le_succ _)
  · exact pget_fits h hZ hC hn hk K hK (by omega)
end
end Go.Proofs.YtflkoabgkgegjaaDoor
/- The pool's Put and Used. Condition: the pool's state, and the tables hold what their texts say. -/
namespace Go.Proofs.YtflkoabgkgegjaaDoor
open Go.RowKit Go.Maps
section
variable {W w w' : World} {pb tb qm fb ga gb b : Nat} {c : Nat → Nat} {L n : Nat} {l : List Tl} {P : Nat → List Pg} {f : Nat → Nat} {C : Nat}
set_option maxRecDepth 100000 in
set_option maxHeartbeats 6400000 in
theorem pput (h : PL W w pb tb qm fb ga gb b c L n l P f C) (hC : TabC W) {k : Nat} (hk : k ∈ cls) (K : Int) (hK : (k : Int) = K) (X : Int) (hX : X ∈ usedC (mC k) (szC k) (P k)) (hq : szC k ≤ C) :
    Calls Tryd.prog 40 #[.pointer (some ⟨pb, 0, none⟩), .int .i64 0, .int .i64 K, .int .i64 X] w fun e w' => e = .returned (.int .i64 0) ∧ ∃ l' P', PL W w' pb tb qm fb ga gb b c L n l' (updF P k P') f (C - szC k) ∧ KeepP w w' ∧ (∀ y, y ∈ usedC (mC k) (szC k) P' ↔ y ∈ usedC (mC k) (szC k) (P k) ∧ y ≠ X) ∧
      ((l' = l ∧ P'.map Pg.q = (P k).map Pg.q) ∨ ∃ P1 p P2, P k = P1 ++ p :: P2 ∧ P' = P1 ++ P2 ∧ ∃ a d, l = a ++ (0, false) :: d ∧ p.q = span a ∧ l' = melt 6 a.reverse 0 d) := by
  have hcf := cls_facts k hk
  obtain ⟨a, ha, hab, _⟩ := used_place (h.lay.lay k hk) h.good hcf.2.2.1 (sz16 hk) hX
  have HXW : Hid ((Lit.int .i64 X).wf = true) := Lib.hid (WalkArith.wf_i64 (by omega))
  have HH := Lib.hid h
  have HT : Hid (∀ wx, Below W.heap.size W wx → TabC wx) := Lib.hid (fun wx hx => hC.below hC.lt hx)
  have HKC := Lib.hid hk
  have HKI := Lib.hid hK
  have HX := Lib.hid hX
  have HC : Hid ((costI K : Int) = ((szC k : Nat) : Int)) := Lib.hid (by rw [← hK, cost_cls hk])
  obtain ⟨z, hz⟩ : ∃ z : Int, ((szC k : Nat) : Int) = z := ⟨_, rfl⟩
  have HSZ := Lib.hid hz
  have HQ := Lib.hid hq
  have t1 : (z == 0) = false := by simp only [beq_eq_false_iff_ne, ne_eq]; omega
  have i0 : (0 : Int) ≤ K := by omega
  have i1 : K < 8 := by omega
  have HKN : Hid (K.toNat = k) := Lib.hid (by omega)
  rw [hz] at HC
  clear h hC hk hcf hz hK hq hX ha hab
  go_enter Tryd.func40, Tryd.ntmps40
  go_wp2_with fail
  refine (pcost K _ (HT.out _ HH.out.way) z HC.out).mono ?_
  rintro e w' ⟨rfl, hw⟩
  have hw2 := hw.symm
  clear hw
  subst hw2
  go_wp2_with fail
  refine (phas HH.out (by have := HT.out W (Below.refl _ _); exact this) HKC.out K HKI.out X HXW.out true (by simp [HX.out])).mono ?_
  rintro e w2 ⟨rfl, h2, k2⟩
  have H2 := Lib.hid h2
  have HK2 := Lib.hid k2
  have r0 := h2.r0
  clear h2 k2
  go_wp2_with fail
  have hd := H2.out.below (Below.refl _ _).drew
  have hTd : TabC w2.drew := (HT.out w2 H2.out.way :)
  go_region_held3 (fun w' => w'.cell? ⟨pb, 0, none⟩ = some (.pointer (some ⟨tb, 0, none⟩))) (first | (exact PL.r0 (by assumption))) (first | (go_at_call 25; (with_reducible refine (pcost K _ hTd z HC.out).mono ?_); rintro e w8 ⟨rfl, rfl⟩) | (go_at_call 28; (with_reducible refine (qrefund (PL.qu (by assumption)) (by have := H2.out.le; omega) (szC k) HQ.out z HSZ.out.symm).mono ?_); rintro e w9 ⟨rfl, hq9, hg9⟩; obtain ⟨h10, hk10⟩ := (PL.charged (by assumption) hg9 hq9 (by have := H2.out.le; omega))))
  all_goals
    have H10 := Lib.hid h10
    have HK10 := Lib.hid ((HK2.out.p.trans (KeepP.of_below (Below.refl w2.heap.size w2).drew)).trans hk10)
    have rk : w9.cell? ⟨pb, 3 + K.toNat, none⟩ = some (.pointer (some ⟨c k, 0, none⟩)) := by rw [HKN.out]; exact h10.rk HKC.out
    clear hd hTd hq9 hg9 h10 hk10 r0
    go_wp2_with fail
    obtain ⟨K', u1, u2⟩ := H10.out.use HKC.out
    have hcf := cls_facts k HKC.out
    refine (giveyes_s u1 (H10.out.lay.lay k HKC.out) (by omega) hcf.2.1 hcf.2.2.1 X HX.out).mono ?_
    rintro e w11 ⟨rfl, l', P', h11, hl, hu, hc⟩
    obtain ⟨h12, h13⟩ := u2 _ _ _ _ h11 (H10.out.lay.give HKC.out hl hc)
    have H12 := Lib.hid h12
    have HK12 := Lib.hid (HK10.out.trans h13.p)
    have HU := Lib.hid hu
    have HCC := Lib.hid hc
    clear u1 u2 hcf h11 hl hu hc h12 h13 rk
    go_wp2
    go_ret
    exact ⟨rfl, l', P', H12.out, HK12.out, HU.out, HCC.out⟩
set_option maxRecDepth 100000 in
theorem pused (h : PL W w pb tb qm fb ga gb b c L n l P f C) (hZ : TabZ W) (hC : TabC W) {k : Nat} (hk : k ∈ cls) (K : Int) (hK : (k : Int) = K) (m : Nat) (hm : m = (usedC (mC k) (szC k) (P k)).length) :
    Calls Tryd.prog 18 #[.pointer (some ⟨pb, 0, none⟩), .int .i64 K] w fun e w' => ∃ A' k', e = .returned (.slice A' m k') ∧ PL W w' pb tb qm fb ga gb b c L n l P f C ∧ Below w.heap.size w w' := by
  have hcf := cls_facts k hk
  have HH := Lib.hid h
  have HZ := Lib.hid hZ
  have HM := Lib.hid hm
  have HT : Hid (TabC w) := Lib.hid (hC.below hC.lt h.way)
  have HK := Lib.hid hk
  have HC : Hid ((costI K : Int) = ((szC k : Nat) : Int)) := Lib.hid (by rw [← hK, cost_cls hk])
  obtain ⟨z, hz⟩ : ∃ z : Int, ((szC k : Nat) : Int) = z := ⟨_, rfl⟩
  have t1 : (z == 0) = false := by simp only [beq_eq_false_iff_ne, ne_eq]; omega
  have i0 : (0 : Int) ≤ K := by omega
  have i1 : K < 8 := by omega
  have rk : w.cell? ⟨pb, 3 + K.toNat, none⟩ = some (.pointer (some ⟨c k, 0, none⟩)) := by
    rw [show K.toNat = k by omega]
    exact h.rk hk
  rw [hz] at HC
  clear h hC hZ hk hcf hz hK hm
  go_enter Tryd.func18, Tryd.ntmps18
  go_wp2_with fail
  refine (pcost K _ HT.out z HC.out).mono ?_
  rintro e w' ⟨rfl, hw⟩
  have hw2 := hw.symm
  clear hw
  subst hw2
  go_wp2_with fail
  have hcf := cls_facts k HK.out
  refine (used_s (HH.out.fam.at HK.out) HZ.out (HH.out.lay.lay k HK.out) hcf.2.1 hcf.2.2.2.2.2.2.2 m HM.out).mono ?_
  rintro e w2 ⟨A', k', rfl, _, _, hb⟩
  have HB := Lib.hid hb
  clear hcf hb
  go_wp2
  go_ret
  exact ⟨A', k', rfl, HH.out.below HB.out, HB.out⟩
end
end Go.Proofs.YtflkoabgkgegjaaDoor
/- A new pool. Condition: the tables hold what their texts say. -/
namespace Go.Proofs.YtflkoabgkgegjaaDoor
open Go.RowKit Go.Maps

theorem BG.lower {V W W' w : World} {b top : Nat} {gm gw : Nat → Nat} {mu n : Nat} {l : List Tl} (h : BG V W [] w b top gm gw mu n l) (hb : Below W'.heap.size W' W) : BG V W' [] w b top gm gw mu n l := by
  obtain ⟨F, U, h1, h2⟩ := h.ex
  exact ⟨⟨F, U, ⟨hb.trans (h1.way.mono hb.size), h1.stay, h1.tle, h1.row, h1.maps, fun k hk => Nat.le_trans hb.size (h1.wnew k hk), h1.inj, h1.used, Nat.le_trans hb.size h1.unew, h1.held⟩, h2⟩, h.good⟩
theorem BG.munew {V W w : World} {S : List (Option Addr × List Value)} {b top : Nat} {gm gw : Nat → Nat} {mu n : Nat} {l : List Tl} (h : BG V W S w b top gm gw mu n l) : W.heap.size ≤ mu := by
  obtain ⟨F, U, h1, h2⟩ := h.ex
  exact h1.unew
/-- a pool whose first caches are made -/
structure PN (W w : World) (pb tb qm fb ga gb b : Nat) (gm gw : Nat → Nat) (mu : Nat) (c : Nat → Nat) (L m : Nat) : Prop where
  bg : BG w W [] w b 6 gm gw mu 0 [(6, true)]
  row : w.heap[pb]? = some (.cells (plRow tb b ga c m) 62 (0, 0))
  qu : QuAt w tb qm fb (L : Int) 0
  ar : Ar.ArAt w ga gb 65536 (fun _ => 0)
  cs : ∀ j, 1 ≤ j → j < m → w.heap[c j]? = some (.cells (cRow b (szC j : Int) none 0 0) 102 (0, 0)) ∧ W.heap.size ≤ c j
  inj : ∀ i j, 1 ≤ i → i < m → 1 ≤ j → j < m → i ≠ j → c i ≠ c j
  new : W.heap.size ≤ fb ∧ W.heap.size ≤ gb ∧ W.heap.size ≤ pb
  qmu : qm ≠ mu
section
variable {W w w' : World} {pb tb qm fb ga gb b : Nat} {gm gw : Nat → Nat} {mu : Nat} {c : Nat → Nat} {L m : Nat}
theorem PN.below (h : PN W w pb tb qm fb ga gb b gm gw mu c L m) (hb : Below w.heap.size w w') : PN W w' pb tb qm fb ga gb b gm gw mu c L m :=
  ⟨(h.bg.below hb).rebase, (hb.block _ (blt h.row)).trans h.row, h.qu.below hb, h.ar.below hb, fun j h1 h2 => ⟨(hb.block _ (blt (h.cs j h1 h2).1)).trans (h.cs j h1 h2).1, (h.cs j h1 h2).2⟩, h.inj, h.new, h.qmu⟩
theorem cP_more (c : Nat → Nat) (m j x : Nat) (h : j ≠ m) : cP (updF c m x) (m + 1) j = cP c m j := by
  unfold cP
  rw [updF_other _ _ h]
  by_cases q : 1 ≤ j ∧ j < m
  · rw [if_pos q, if_pos (by omega)]
  · rw [if_neg q, if_neg (by omega)]
theorem plRow_step (tb b ga : Nat) (c : Nat → Nat) (m x : Nat) (hm : m < 8) (v : Value) (hv : cP (updF c m x) (m + 1) m = v) : (plRow tb b ga c m).setIfInBounds (3 + m) v = plRow tb b ga (updF c m x) (m + 1) := by
  subst hv
  have : m = 0 ∨ m = 1 ∨ m = 2 ∨ m = 3 ∨ m = 4 ∨ m = 5 ∨ m = 6 ∨ m = 7 := by omega
  unfold plRow
  rcases this with rfl | rfl | rfl | rfl | rfl | rfl | rfl | rfl <;>
  · simp only [List.setIfInBounds_toArray, Nat.reduceAdd, List.set_cons_succ, List.set_cons_zero]
    (first | rw [← cP_more c _ 0 x (by decide)] | skip) <;> (first | rw [← cP_more c _ 1 x (by decide)] | skip) <;> (first | rw [← cP_more c _ 2 x (by decide)] | skip) <;> (first | rw [← cP_more c _ 3 x (by decide)] | skip) <;> (first | rw [← cP_more c _ 4 x (by decide)] | skip) <;> (first | rw [← cP_more c _ 5 x (by decide)] | skip) <;> (first | rw [← cP_more c _ 6 x (by decide)] | skip) <;> (first | rw [← cP_more c _ 7 x (by decide)] | skip)
/-- a cache is stored -/
theorem PN.step (h : PN W w pb tb qm fb ga gb b gm gw mu c L m) (hm : m < 8) (x : Nat) (hx : 1 ≤ m → w.heap[x]? = some (.cells (cRow b (szC m : Int) none 0 0) 102 (0, 0)) ∧ W.heap.size ≤ x ∧ ∀ j, 1 ≤ j → j < m → c j ≠ x) (v : Value) (hv : cP (updF c m x) (m + 1) m = v) :
    PN W (w.setCell ⟨pb, 3 + m, none⟩ v) pb tb qm fb ga gb b gm gw mu (updF c m x) L (m + 1) := by
  have hg : w.grownBy (w.setCell ⟨pb, 3 + m, none⟩ v) (some pb) := gb_set (World.grownBy.refl _ _) _ _
  have st : ∀ {y : Nat} {ds : Array Value} {u : TypeId}, w.heap[y]? = some (.cells ds u (0, 0)) → u ≠ 62 → (w.setCell ⟨pb, 3 + m, none⟩ v).heap[y]? = some (.cells ds u (0, 0)) := fun hd ht => (hg.block _ (blt hd) (fun e2 => two_types hd h.row ht (by injection e2))).trans hd
  have hrow := heap_setCell_same w pb (3 + m) _ _ v h.row
  obtain ⟨a1, ⟨cs, a2, a3⟩, a4, a5⟩ := h.ar
  have hq : qm < w.heap.size := by
    have := h.qu.map
    rcases Nat.lt_or_ge qm w.heap.size with q | q
    · exact q
    · rw [Array.getElem?_eq_none q] at this; cases this
  refine ⟨h.bg.other hg h.new.2.2 ⟨⟨_, _, h.row, by decide, by decide⟩, h.bg.not_gw h.row (by decide)⟩, ?_, ⟨st h.qu.tree (by decide), (hg.block _ hq (fun e => by
    injection e with e
    have h1 := h.qu.map
    rw [e, h.row] at h1
    cases h1)).trans h.qu.map, st h.qu.fac (by decide)⟩, ⟨st a1 (by decide), ⟨cs, st a2 (by decide), a3⟩, fun i hi => ?_, a5⟩, fun j h1 h2 => ?_, fun i j h1 h2 h3 h4 hne => ?_, h.new, h.qmu⟩
  · rw [← plRow_step tb b ga c m x hm v hv]
    exact hrow
  · have := a4 i hi
    rw [cell_of_row _ _ _ _ _ _ a2] at this
    rw [cell_of_row _ _ _ _ _ _ (st a2 (by decide)), this]
  · by_cases e : j = m
    · subst e
      rw [updF_same]
      exact ⟨st (hx h1).1 (by decide), (hx h1).2.1⟩
    · rw [updF_other _ _ e]
      exact ⟨st (h.cs j h1 (by omega)).1 (by decide), (h.cs j h1 (by omega)).2⟩
  · by_cases e : i = m
    · subst e
      rw [updF_same, updF_other _ _ (fun e => hne e.symm)]
      exact fun e2 => (hx h1).2.2 j h3 (by omega) e2.symm
    · rw [updF_other _ _ e]
      by_cases e2 : j = m
      · subst e2
        rw [updF_same]
        exact (hx h3).2.2 i h1 (by omega)
      · rw [updF_other _ _ e2]
        exact h.inj i j h1 (by omega) h3 (by omega) hne
theorem PN.done (h : PN W w pb tb qm fb ga gb b gm gw mu c L 8) (hL : L ≤ 65536) : PL W w pb tb qm fb ga gb b c L 0 [(6, true)] (fun _ => []) (fun _ => 0) 0 := by
  have two : ∀ {x : Nat} {ds : Array Value} {u : TypeId}, w.heap[x]? = some (.cells ds u (0, 0)) → qm ≠ x := fun hx e => by
    have h1 := h.qu.map
    rw [e, hx] at h1
    cases h1
  refine ⟨⟨gm, gw, mu, fun _ => none, fun _ => 0, fun k hk => ?_, fun j hj k hk hne => ?_⟩, h.row, h.qu, h.ar, ⟨fun k hk => lay_nil _ _ _, fun j hj k hk hne p hp => absurd hp List.not_mem_nil⟩, ⟨Nat.zero_le _, hL⟩, ⟨h.new.1, h.new.2.1⟩⟩
  · have hcf := cls_facts k hk
    have hc := h.cs k (by omega) (by omega)
    refine ⟨h.bg, hc.1, World.ownsRow_nil _ _ _ _, fun p hp => absurd hp List.not_mem_nil, List.Pairwise.nil, List.Pairwise.nil, hc.2, fun p hp => absurd hp List.not_mem_nil, fun p hp => absurd hp List.not_mem_nil, fun x hx => ?_, fun x hx => ?_, fun x hx k hk => ?_, fun x hx p hp => absurd hp List.not_mem_nil, fun x hx e => by cases e⟩
    · rw [List.mem_singleton.1 hx]
      exact h.qu.map
    · rw [List.mem_singleton.1 hx]
      exact ⟨two hc.1, h.qmu⟩
    · rw [List.mem_singleton.1 hx]
      obtain ⟨cs, hu⟩ := h.bg.u64 hk
      exact two hu
  · have h1 := cls_facts j hj
    have h2 := cls_facts k hk
    exact ⟨h.inj j k (by omega) (by omega) (by omega) (by omega) hne, fun p hp => absurd hp List.not_mem_nil, fun g e => by cases e⟩
end
end Go.Proofs.YtflkoabgkgegjaaDoor
