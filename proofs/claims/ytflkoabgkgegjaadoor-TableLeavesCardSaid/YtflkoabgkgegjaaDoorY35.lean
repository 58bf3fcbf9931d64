/- The table's Set, where its leaf must come. Condition: the table's state, and the tables of the text hold what their texts say. -/
import Derived.Test.YtflkoabgkgegjaaDoorY34
/- The table's Set, where its leaf must come. Condition: the table's state, and the tables of the text hold what their texts say. -/
namespace Go.Proofs.YtflkoabgkgegjaaDoor
open Go.RowKit Go.Maps
section
variable {W w w' : World} {pb tb qm fb ga gb b : Nat} {c : Nat → Nat} {xb at_ L n : Nat} {l : List Tl} {P : Nat → List Pg} {f : Nat → Nat} {C : Nat} {lf A B : Nat → Nat}
set_option maxRecDepth 100000 in
theorem troot0 (t2 : w.cell? ⟨xb, 2, none⟩ = some (.int .i64 (at_ : Int))) (hd : at_ + 128 ≤ 65536) (s : Nat) (hs : s < 256) (S R : Int) (hS : (s : Int) = S) (hR : ((at_ + 8 * (s / 16) : Nat) : Int) = R) :
    Calls Tryd.prog 34 #[.pointer (some ⟨xb, 0, none⟩), .int .i64 S] w fun e w' => e = .returned (.int .i64 R) ∧ w' = w := by
  obtain ⟨X, hX⟩ : ∃ X : Int, (at_ : Int) = X := ⟨_, rfl⟩
  rw [hX] at t2
  obtain ⟨D, hD⟩ : ∃ D : Int, ((s / 16 : Nat) : Int) = D := ⟨_, rfl⟩
  obtain ⟨E, hE⟩ : ∃ E : Int, D * 8 = E := ⟨_, rfl⟩
  have z1 : S.tdiv 16 = D := by rw [← hS, Int.tdiv_eq_ediv_of_nonneg (by omega)]; omega
  have z2 : IntKind.i64.wrap D = D := by rw [IntKind.wrap_i64]; omega
  have z3 : wrap64 D = D := by unfold wrap64; omega
  have z4 : IntKind.i64.wrap (D * 8) = E := by rw [IntKind.wrap_i64]; omega
  have z5 : IntKind.i64.wrap (X + E) = R := by rw [IntKind.wrap_i64]; omega
  clear hd hX hD hE hS hR hs
  go_enter Tryd.func34, Tryd.ntmps34
  go_wp2
  go_ret
  exact ⟨rfl, rfl⟩
/-- what a fresh place is to the table -/
theorem TS.came (h : TS W w pb tb qm fb ga gb b c xb at_ L n l P f C lf A B) {n' : Nat} {l' : List Tl} {P' : List Pg} {f' : Nat → Nat} {C' xa j : Nat} (h9 : PL W w' pb tb qm fb ga gb b c L n' l' (updF P 7 P') f' C') (hts : TakeS 6 (mC 7) (szC 7) l (P 7) (xa : Int) 0 l' P') (hj : j < 16) (hl : lf j = 0) :
    (∀ y, y ∈ usedC (mC 7) (szC 7) P' ↔ y ∈ usedC (mC 7) (szC 7) (P 7) ∨ y = (xa : Int)) ∧ (at_ : Int) ∈ usedC (mC 2) (szC 2) (updF P 7 P' 2) ∧ (∀ i, i < 16 → updF lf j xa i ≠ 0 → ((updF lf j xa i : Nat) : Int) ∈ usedC (mC 7) (szC 7) (updF P 7 P' 7)) ∧
      (∀ i k, i < 16 → k < 16 → i ≠ k → updF lf j xa i ≠ 0 → updF lf j xa i ≠ updF lf j xa k) ∧ xa ≠ 0 ∧ xa + 256 ≤ 65536 := by
  have hcf := cls_facts 7 seven_mem
  have hus := hts.used (h.pl.lay.lay 7 seven_mem) (h.pl.rise seven_mem) (h.pl.wf seven_mem) hcf.2.2.1 (by omega) hcf.2.2.2.2.2.2.1
  rcases hus with ⟨e, _⟩ | ⟨_, hno, hiff⟩
  · cases e
  have hx : (xa : Int) ∈ usedC (mC 7) (szC 7) P' := (hiff _).2 (.inr rfl)
  have hl9 := h9.lay.lay 7 seven_mem
  rw [updF_same] at hl9
  obtain ⟨a, e1, e2, e3, e4⟩ := used_place hl9 h9.good hcf.2.2.1 (sz16 seven_mem) hx
  have e5 : xa = a := by omega
  subst e5
  have hpo : ∀ i, i < 16 → lf i ≠ 0 → lf i ≠ xa := fun i hi hn e => hno (by rw [← e]; exact h.plf i hi hn)
  refine ⟨hiff, by rw [updF_other _ _ (by decide)]; exact h.pat, fun i hi hn => ?_, fun i k hi hk hne hn => ?_, by omega, e2⟩
  · rw [updF_same]
    by_cases e : i = j
    · subst e
      rw [updF_same]
      exact hx
    · rw [updF_other _ _ e] at hn ⊢
      exact (hiff _).2 (.inl (h.plf i hi hn))
  · by_cases e : i = j
    · subst e
      rw [updF_same, updF_other _ _ (fun e => hne e.symm)]
      intro e2
      by_cases q : lf k = 0
      · rw [q] at e2
        omega
      · exact hpo k hk q e2.symm
    · rw [updF_other _ _ e] at hn ⊢
      by_cases e2 : k = j
      · subst e2
        rw [updF_same]
        exact hpo i hi hn
      · rw [updF_other _ _ e2]
        exact h.inj i k hi hk hne hn
set_option maxRecDepth 100000 in
set_option maxHeartbeats 6400000 in
theorem tset_new (h : TS W w pb tb qm fb ga gb b c xb at_ L n l P f C lf A B) (hZ : TabZ W) (hC : TabC W) (hn : n < 1000) (s x y : Nat) (hs : s < 256) (hl : lf (s / 16) = 0) (hx : x < 18446744073709551616) (hy : y < 18446744073709551616) (hx0 : x ≠ 0) (S X Y : Int) (hS : (s : Int) = S) (hX : (x : Int) = X) (hY : (y : Int) = Y) :
    Calls Tryd.prog 10 #[.pointer (some ⟨xb, 0, none⟩), .int .i64 S, .int .u64 X, .int .u64 Y] w fun e w' => ∃ er l' P' f' C' lf' A' B', e = .returned (.int .i64 er) ∧ SetR L l (P 7) f C lf A B s x y er l' P' C' lf' A' B' ∧ TS W w' pb tb qm fb ga gb b c xb at_ L (n + 1) l' (updF P 7 P') f' C' lf' A' B' ∧ KeepP w w' := by
  have HM := Lib.hid (tmay S true (by simp; omega) w)
  have hlv : ((lf (s / 16) : Nat) : Int) = 0 := by omega
  have HLf := Lib.hid (tleaf h s hs S 0 hS hlv)
  have HH := Lib.hid h
  have HZ := Lib.hid hZ
  have HC := Lib.hid hC
  have HN := Lib.hid hn
  have HL := Lib.hid hl
  have HX0 := Lib.hid hx0
  have HSS : Hid (s < 256 ∧ (s : Int) = S) := Lib.hid ⟨hs, hS⟩
  have HXY : Hid (x < 18446744073709551616 ∧ y < 18446744073709551616 ∧ (x : Int) = X ∧ (y : Int) = Y) := Lib.hid ⟨hx, hy, hX, hY⟩
  have t0 := h.t0
  have t1 := h.t1
  have u2 : (X == 0) = false := by simp; omega
  clear h hs hl hx hy hx0 hS hX hY hZ hC hn hlv
  go_enter Tryd.func10, Tryd.ntmps10
  go_wp2_with fail
  refine HM.out.mono ?_
  rintro e w' ⟨rfl, hw⟩
  have hw2 := hw.symm
  clear hw
  subst hw2
  go_wp2_with fail
  refine HLf.out.mono ?_
  rintro e w' ⟨rfl, hw⟩
  have hw2 := hw.symm
  clear hw
  subst hw2
  go_wp2_with fail
  have hd := HH.out.below (Below.refl _ _).drew
  go_region_held3 (fun w' => w'.cell? ⟨xb, 0, none⟩ = some (.pointer (some ⟨pb, 0, none⟩)) ∧ w'.cell? ⟨xb, 1, none⟩ = some (.int .i64 0)) (first | (exact ⟨TS.t0 (by assumption), TS.t1 (by assumption)⟩) | (exact ⟨(cell_of_row _ _ 0 _ _ _ hr9).trans rfl, (cell_of_row _ _ 1 _ _ _ hr9).trans rfl⟩)) (first | (go_at_call 8; (with_reducible refine (pget (TS.pl (by assumption)) HZ.out HC.out HN.out seven_mem 7 rfl).mono ?_); rintro e w9 ⟨v, er, l', P', f1, C', rfl, hg9, h9, k9⟩; have hr9 := k9 _ _ _ (TS.row hd) tab_off))
  all_goals
    have HG9 := Lib.hid hg9
    have H9 := Lib.hid h9
    have HR9 := Lib.hid hr9
    have K9 := Lib.hid ((KeepP.of_below (Below.refl w.heap.size w).drew).trans k9)
    clear hd hg9 h9 k9 hr9 t0 t1
    by_cases q : er = 0
    · have q1 : (er != 0) = false := by simp [q]
      have hyes : ∃ xa : Nat, v = (xa : Int) ∧ TakeS 6 (mC 7) (szC 7) l (P 7) (xa : Int) 0 l' P' ∧ f1 = Ar.fillF f xa (szC 7) 0 ∧ C' = C + szC 7 := by
        cases HG9.out with
        | quota _ => cases q
        | none _ _ _ => cases q
        | yes _ a _ _ _ ht => exact ⟨a, rfl, ht, rfl, rfl⟩
      obtain ⟨xa, hv, hts, hf1, _⟩ := hyes
      obtain ⟨g1, g2, g3, g4, g5, g6⟩ := HH.out.came H9.out hts (j := s / 16) (by have := HSS.out; omega) HL.out
      have hdj := dj_of H9.out g2 g3 g4
      have HDJ := Lib.hid hdj
      have HG : Hid ((∀ y, y ∈ usedC (mC 7) (szC 7) P' ↔ y ∈ usedC (mC 7) (szC 7) (P 7) ∨ y = (xa : Int)) ∧ xa ≠ 0 ∧ v = (xa : Int) ∧ er = 0) := Lib.hid ⟨g1, g5, hv, q⟩
      have H9A : Hid (PL W w9 pb tb qm fb ga gb b c L (n + 1) l' (updF P 7 P') (Ar.fillF f xa 256 0) C') := Lib.hid (by have := H9.out; rw [hf1] at this; exact this)
      have GB : Hid ((at_ : Int) ∈ usedC (mC 2) (szC 2) (updF P 7 P' 2) ∧ (∀ i, i < 16 → updF lf (s / 16) xa i ≠ 0 → ((updF lf (s / 16) xa i : Nat) : Int) ∈ usedC (mC 7) (szC 7) (updF P 7 P' 7)) ∧ (∀ i k, i < 16 → k < 16 → i ≠ k → updF lf (s / 16) xa i ≠ 0 → updF lf (s / 16) xa i ≠ updF lf (s / 16) xa k)) := Lib.hid ⟨g2, g3, g4⟩
      have c0 : w9.cell? ⟨xb, 0, none⟩ = some (.pointer (some ⟨pb, 0, none⟩)) := (cell_of_row _ _ 0 _ _ _ HR9.out).trans rfl
      have zc : IntKind.u64.wrap v = v := by rw [IntKind.wrap_u64]; omega
      obtain ⟨R, hR⟩ : ∃ R : Int, ((at_ + 8 * (s / 16) : Nat) : Int) = R := ⟨_, rfl⟩
      have HRR := Lib.hid hR
      have hroot := hdj.root
      have C1 := Lib.hid (troot0 (w := w9) (xb := xb) ((cell_of_row _ _ 2 _ _ _ HR9.out).trans rfl) hroot.1 s HSS.out.1 S R HSS.out.2 hR)
      clear hv hts hf1 g1 g2 g3 g4 g5 g6 hdj hR hroot q
      go_wp2_with fail
      refine (parena H9.out).mono ?_
      rintro e w10 ⟨rfl, hw⟩
      have hw2 := hw.symm
      clear hw
      subst hw2
      go_wp2_with fail
      refine C1.out.mono ?_
      rintro e w10 ⟨rfl, hw⟩
      have hw2 := hw.symm
      clear hw
      subst hw2
      go_wp2_with fail
      have hb10 : Below w9.heap.size w9 (w9.alloc (.cells #[.int .u64 v] 31)) := (Below.refl _ w9).alloc (Nat.le_refl _) _
      have h10 := H9A.out.below hb10
      have hgb : gb < w9.heap.size := by
        obtain ⟨_, ⟨cs, a2, _⟩, _⟩ := H9A.out.ar
        exact blt a2
      refine (store_int _ ga gb 65536 _ (at_ + 8 * (s / 16)) [xa] R HRR.out w9.heap.size 1 1 rfl (by have := HDJ.out.root; have := HSS.out.1; simp only [List.length_cons, List.length_nil]; omega) (by have := HDJ.out.root; omega) h10.ar (by have := SlR_new w9 #[.int .u64 v] 31; rw [HG.out.2.2.1] at this ⊢; exact this) (by omega) (by
        have hd9 := HDJ.out.leaf (s / 16) (by have := HSS.out; omega) (by rw [updF_same]; exact HG.out.2.1)
        rw [updF_same] at hd9
        simp only [List.mem_cons, List.not_mem_nil, or_false]
        rintro z rfl
        omega)).mono ?_
      rintro e w11 ⟨rfl, ha11, hg11⟩
      obtain ⟨h11, k11⟩ := h10.wrote hg11 ha11
      have r11 := k11 _ _ _ ((hb10.block _ (blt HR9.out)).trans HR9.out) tab_off
      have hT : TS W w11 pb tb qm fb ga gb b c xb at_ L (n + 1) l' (updF P 7 P') _ C' (updF lf (s / 16) xa) A B := ⟨h11, r11, HH.out.rel.leaf HH.out.dj (s / 16) xa (by have := HSS.out; omega) HL.out HDJ.out HG.out.2.1 (by
        have hd9 := HDJ.out.leaf (s / 16) (by have := HSS.out; omega) (by rw [updF_same]; exact HG.out.2.1)
        rw [updF_same] at hd9
        omega), GB.out.1, GB.out.2.1, GB.out.2.2, HH.out.ab⟩
      have HT := Lib.hid hT
      have K11 := Lib.hid ((K9.out.trans (KeepP.of_below hb10)).trans k11)
      obtain ⟨R2, hR2⟩ : ∃ R2 : Int, ((updF lf (s / 16) xa (s / 16) + s % 16 * 16 : Nat) : Int) = R2 := ⟨_, rfl⟩
      have t11 := hT.t0
      have HSP := Lib.hid (tspot (updF lf (s / 16) xa (s / 16)) s (by have := HDJ.out.leaf (s / 16) (by have := HSS.out; omega) (by rw [updF_same]; exact HG.out.2.1); omega) v S R2 (by rw [updF_same]; exact HG.out.2.2.1.symm) HSS.out.2 hR2 w11)
      have HST := Lib.hid (tstore hT s x y HSS.out.1 (fun e => absurd e HX0.out) (by rw [updF_same]; exact HG.out.2.1) HXY.out.1 HXY.out.2.1 R2 X Y hR2 HXY.out.2.2.1 HXY.out.2.2.2)
      clear hb10 h10 hgb ha11 hg11 h11 k11 r11 hT hR2 c0
      go_wp2_with fail
      refine (parena HT.out.pl).mono ?_
      rintro e w12 ⟨rfl, hw⟩
      have hw2 := hw.symm
      clear hw
      subst hw2
      go_wp2_with fail
      refine HSP.out.mono ?_
      rintro e w12 ⟨rfl, hw⟩
      have hw2 := hw.symm
      clear hw
      subst hw2
      go_wp2_with fail
      refine HST.out.mono ?_
      rintro e w13 ⟨rfl, h13, k13⟩
      have H13 := Lib.hid h13
      have K13 := Lib.hid (K11.out.trans k13)
      clear h13 k13 t11
      go_wp2
      go_ret
      have e1 := HG.out.2.2.2
      have e2 := HG.out.2.2.1
      subst e1 e2
      exact ⟨0, l', P', _, C', updF lf (s / 16) xa, updF A s x, updF B s y, rfl, .inr ⟨HL.out, _, _, HG9.out, .inr ⟨rfl, xa, rfl, HG.out.2.1, HG.out.1, rfl, rfl, rfl⟩⟩, H13.out, K13.out⟩
    · have q1 : (er != 0) = true := by simp [q]
      have HQ := Lib.hid q
      clear q
      go_wp2
      go_ret
      have hst : l' = l ∧ P' = P 7 ∧ f1 = f ∧ C' = C := by
        have hq := HQ.out
        revert hq
        cases HG9.out with
        | quota _ => exact fun _ => ⟨rfl, rfl, rfl, rfl⟩
        | none _ _ _ => exact fun _ => ⟨rfl, rfl, rfl, rfl⟩
        | yes _ a _ _ _ ht => exact fun h => absurd rfl h
      have h9 := H9.out
      obtain ⟨e1, e2, e3, e4⟩ := hst
      have hg := HG9.out
      subst e1 e2 e3 e4
      have h9' := h9
      rw [updF_eta] at h9'
      exact ⟨er, _, _, _, _, lf, A, B, rfl, .inr ⟨HL.out, _, _, hg, .inl ⟨HQ.out, rfl, rfl, rfl⟩⟩, by rw [updF_eta]; exact ⟨h9', HR9.out, HH.out.rel, HH.out.pat, HH.out.plf, HH.out.inj, HH.out.ab⟩, K9.out⟩
end
end Go.Proofs.YtflkoabgkgegjaaDoor
