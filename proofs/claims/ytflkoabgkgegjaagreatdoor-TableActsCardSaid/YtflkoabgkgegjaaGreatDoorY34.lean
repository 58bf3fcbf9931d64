/- The table's Set, where its leaf must come. Condition: the table's state, and the tables of the text hold what their texts say. And what follows from it. -/
import Derived.Test.YtflkoabgkgegjaaGreatDoorY33
/- The table's Set, where its leaf must come. Condition: the table's state, and the tables of the text hold what their texts say. -/
namespace Go.Proofs.YtflkoabgkgegjaaGreatDoor
open Go.RowKit Go.Maps
section
variable {W w w' : World} {pb tb qm fb ga gb b : Nat} {c : Nat → Nat} {xb at_ L n : Nat} {l : List Tl} {P : Nat → List Pg} {f : Nat → Nat} {C : Nat} {lf A B : Nat → Nat}
set_option maxRecDepth 100000 in
theorem troot0 (t2 : w.cell? ⟨xb, 2, none⟩ = some (.int .i64 (at_ : Int))) (hd : at_ + 128 ≤ 65536) (s : Nat) (hs : s < 256) (S R : Int) (hS : (s : Int) = S) (hR : ((at_ + 8 * (s / 16) : Nat) : Int) = R) :
    Calls Tryz.prog 33 #[.pointer (some ⟨xb, 0, none⟩), .int .i64 S] w fun e w' => e = .returned (.int .i64 R) ∧ w' = w := by
  obtain ⟨X, hX⟩ : ∃ X : Int, (at_ : Int) = X := ⟨_, rfl⟩
  rw [hX] at t2
  obtain ⟨D, hD⟩ : ∃ D : Int, ((s / 16 : Nat) : Int) = D := ⟨_, rfl⟩
  obtain ⟨E, hE⟩ : ∃ E : Int, D * 8 = E := ⟨_, rfl⟩
  have z1 : S.tdiv 16 = D := by rw [← hS, Int.tdiv_eq_ediv_of_nonneg (by omega)]; omega
  have z2 : IntKind.i64.wrap D = D := by rw [IntKind.wrap_i64]; omega
  have z3 : wrap64 D = D := by unfold wrap64; omega
  have z4 : IntKind.i64.wrap (D * 8) = E := by rw [IntKind.wrap_i64]; omega
  have z5 : IntKind.i64.wrap (X + E) = R := by rw [IntKind.wrap_i64]; omega
  clear hd hX hD hE hS hR hs
  go_enter Tryz.func33, Tryz.ntmps33
  go_wp2
  go_ret
  exact ⟨rfl, rfl⟩
/-- what a fresh place is to the table -/
theorem TS.came (h : TS W w pb tb qm fb ga gb b c xb at_ L n l P f C lf A B) {n' : Nat} {l' : List Tl} {P' : List Pg} {f' : Nat → Nat} {C' xa j : Nat} (h9 : PL W w' pb tb qm fb ga gb b c L n' l' (updF P 7 P') f' C') (hts : TakeS 6 (mC 7) (szC 7) l (P 7) (xa : Int) 0 l' P') (hj : j < 16) (hl : lf j = 0) :
    (∀ y, y ∈ usedC (mC 7) (szC 7) P' ↔ y ∈ usedC (mC 7) (szC 7) (P 7) ∨ y = (xa : Int)) ∧ (at_ : Int) ∈ usedC (mC 2) (szC 2) (updF P 7 P' 2) ∧ (∀ i, i < 16 → updF lf j xa i ≠ 0 → ((updF lf j xa i : Nat) : Int) ∈ usedC (mC 7) (szC 7) (updF P 7 P' 7)) ∧
      (∀ i k, i < 16 → k < 16 → i ≠ k → updF lf j xa i ≠ 0 → updF lf j xa i ≠ updF lf j xa k) ∧ xa ≠ 0 ∧ xa + 256 ≤ 65536 := by
  have hcf := cls_facts 7 seven_mem
  have hus := hts.used (h.pl.lay.lay 7 seven_mem) (h.pl.rise seven_mem) (h.pl.wf seven_mem) hcf.2.2.1 (by omega) hcf.2.2.2.2.2.2.1
  rcases hus with ⟨e, _⟩ | ⟨_, hno, hiff⟩
  · cases e
  have hx : (xa : Int) ∈ usedC (mC 7) (szC 7) P' := (hiff _).2 (.inr rfl)
  have hl9 := h9.lay.lay 7 seven_mem
  rw [updF_same] at hl9
  obtain ⟨a, e1, e2, e3, e4⟩ := used_place hl9 h9.good hcf.2.2.1 (sz16 seven_mem) hx
  have e5 : xa = a := by omega
  subst e5
  have hpo : ∀ i, i < 16 → lf i ≠ 0 → lf i ≠ xa := fun i hi hn e => hno (by rw [← e]; exact h.plf i hi hn)
  refine ⟨hiff, by rw [updF_other _ _ (by decide)]; exact h.pat, fun i hi hn => ?_, fun i k hi hk hne hn => ?_, by omega, e2⟩
  · rw [updF_same]
    by_cases e : i = j
    · subst e
      rw [updF_same]
      exact hx
    · rw [updF_other _ _ e] at hn ⊢
      exact (hiff _).2 (.inl (h.plf i hi hn))
  · by_cases e : i = j
    · subst e
      rw [updF_same, updF_other _ _ (fun e => hne e.symm)]
      intro e2
      by_cases q : lf k = 0
      · rw [q] at e2
        omega
      · exact hpo k hk q e2.symm
    · rw [updF_other _ _ e] at hn ⊢
      by_cases e2 : k = j
      · subst e2
        rw [updF_same]
        exact hpo i hi hn
      · rw [updF_other _ _ e2]
        exact h.inj i k hi hk hne hn
set_option maxRecDepth 100000 in
set_option maxHeartbeats 6400000 in
theorem tset_new (h : TS W w pb tb qm fb ga gb b c xb at_ L n l P f C lf A B) (hZ : TabZ W) (hC : TabC W) (hn : n < 1000) (s x y : Nat) (hs : s < 256) (hl : lf (s / 16) = 0) (hx : x < 18446744073709551616) (hy : y < 18446744073709551616) (hx0 : x ≠ 0) (S X Y : Int) (hS : (s : Int) = S) (hX : (x : Int) = X) (hY : (y : Int) = Y) :
    Calls Tryz.prog 6 #[.pointer (some ⟨xb, 0, none⟩), .int .i64 S, .int .u64 X, .int .u64 Y] w fun e w' => ∃ er l' P' f' C' lf' A' B', e = .returned (.int .i64 er) ∧ SetR L l (P 7) f C lf A B s x y er l' P' C' lf' A' B' ∧ TS W w' pb tb qm fb ga gb b c xb at_ L (n + 1) l' (updF P 7 P') f' C' lf' A' B' ∧ KeepP w w' := by
  have HM := Lib.hid (tmay S true (by simp; omega) w)
  have hlv : ((lf (s / 16) : Nat) : Int) = 0 := by omega
  have HLf := Lib.hid (tleaf h s hs S 0 hS hlv)
  have HH := Lib.hid h
  have HZ := Lib.hid hZ
  have HC := Lib.hid hC
  have HN := Lib.hid hn
  have HL := Lib.hid hl
  have HX0 := Lib.hid hx0
  have HSS : Hid (s < 256 ∧ (s : Int) = S) := Lib.hid ⟨hs, hS⟩
  have HXY : Hid (x < 18446744073709551616 ∧ y < 18446744073709551616 ∧ (x : Int) = X ∧ (y : Int) = Y) := Lib.hid ⟨hx, hy, hX, hY⟩
  have t0 := h.t0
  have t1 := h.t1
  have u2 : (X == 0) = false := by simp; omega
  clear h hs hl hx hy hx0 hS hX hY hZ hC hn hlv
  go_enter Tryz.func6, Tryz.ntmps6
  go_wp2_with fail
  refine HM.out.mono ?_
  rintro e w' ⟨rfl, hw⟩
  have hw2 := hw.symm
  clear hw
  subst hw2
  go_wp2_with fail
  refine HLf.out.mono ?_
  rintro e w' ⟨rfl, hw⟩
  have hw2 := hw.symm
  clear hw
  subst hw2
  go_wp2_with fail
  have hd := HH.out.below (Below.refl _ _).drew
  go_region_held3 (fun w' => w'.cell? ⟨xb, 0, none⟩ = some (.pointer (some ⟨pb, 0, none⟩)) ∧ w'.cell? ⟨xb, 1, none⟩ = some (.int .i64 0)) (first | (exact ⟨TS.t0 (by assumption), TS.t1 (by assumption)⟩) | (exact ⟨(cell_of_row _ _ 0 _ _ _ hr9).trans rfl, (cell_of_row _ _ 1 _ _ _ hr9).trans rfl⟩)) (first | (go_at_call 14; (with_reducible refine (pget (TS.pl (by assumption)) HZ.out HC.out HN.out seven_mem 7 rfl).mono ?_); rintro e w9 ⟨v, er, l', P', f1, C', rfl, hg9, h9, k9⟩; have hr9 := k9 _ _ _ (TS.row hd) tab_off))
  all_goals
    have HG9 := Lib.hid hg9
    have H9 := Lib.hid h9
    have HR9 := Lib.hid hr9
    have K9 := Lib.hid ((KeepP.of_below (Below.refl w.heap.size w).drew).trans k9)
    clear hd hg9 h9 k9 hr9 t0 t1
    by_cases q : er = 0
    · have q1 : (er != 0) = false := by simp [q]
      have hyes : ∃ xa : Nat, v = (xa : Int) ∧ TakeS 6 (mC 7) (szC 7) l (P 7) (xa : Int) 0 l' P' ∧ f1 = Ar.fillF f xa (szC 7) 0 ∧ C' = C + szC 7 := by
        cases HG9.out with
        | quota _ => cases q
        | none _ _ _ => cases q
        | yes _ a _ _ _ ht => exact ⟨a, rfl, ht, rfl, rfl⟩
      obtain ⟨xa, hv, hts, hf1, _⟩ := hyes
      obtain ⟨g1, g2, g3, g4, g5, g6⟩ := HH.out.came H9.out hts (j := s / 16) (by have := HSS.out; omega) HL.out
      have hdj := dj_of H9.out g2 g3 g4
      have HDJ := Lib.hid hdj
      have HG : Hid ((∀ y, y ∈ usedC (mC 7) (szC 7) P' ↔ y ∈ usedC (mC 7) (szC 7) (P 7) ∨ y = (xa : Int)) ∧ xa ≠ 0 ∧ v = (xa : Int) ∧ er = 0) := Lib.hid ⟨g1, g5, hv, q⟩
      have H9A : Hid (PL W w9 pb tb qm fb ga gb b c L (n + 1) l' (updF P 7 P') (Ar.fillF f xa 256 0) C') := Lib.hid (by have := H9.out; rw [hf1] at this; exact this)
      have GB : Hid ((at_ : Int) ∈ usedC (mC 2) (szC 2) (updF P 7 P' 2) ∧ (∀ i, i < 16 → updF lf (s / 16) xa i ≠ 0 → ((updF lf (s / 16) xa i : Nat) : Int) ∈ usedC (mC 7) (szC 7) (updF P 7 P' 7)) ∧ (∀ i k, i < 16 → k < 16 → i ≠ k → updF lf (s / 16) xa i ≠ 0 → updF lf (s / 16) xa i ≠ updF lf (s / 16) xa k)) := Lib.hid ⟨g2, g3, g4⟩
      have c0 : w9.cell? ⟨xb, 0, none⟩ = some (.pointer (some ⟨pb, 0, none⟩)) := (cell_of_row _ _ 0 _ _ _ HR9.out).trans rfl
      have zc : IntKind.u64.wrap v = v := by rw [IntKind.wrap_u64]; omega
      obtain ⟨R, hR⟩ : ∃ R : Int, ((at_ + 8 * (s / 16) : Nat) : Int) = R := ⟨_, rfl⟩
      have HRR := Lib.hid hR
      have hroot := hdj.root
      have C1 := Lib.hid (troot0 (w := w9) (xb := xb) ((cell_of_row _ _ 2 _ _ _ HR9.out).trans rfl) hroot.1 s HSS.out.1 S R HSS.out.2 hR)
      clear hv hts hf1 g1 g2 g3 g4 g5 g6 hdj hR hroot q
      go_wp2_with fail
      refine (parena H9.out).mono ?_
      rintro e w10 ⟨rfl, hw⟩
      have hw2 := hw.symm
      clear hw
      subst hw2
      go_wp2_with fail
      refine C1.out.mono ?_
      rintro e w10 ⟨rfl, hw⟩
      have hw2 := hw.symm
      clear hw
      subst hw2
      go_wp2_with fail
      have hb10 : Below w9.heap.size w9 (w9.alloc (.cells #[.int .u64 v] 27)) := (Below.refl _ w9).alloc (Nat.le_refl _) _
      have h10 := H9A.out.below hb10
      have hgb : gb < w9.heap.size := by
        obtain ⟨_, ⟨cs, a2, _⟩, _⟩ := H9A.out.ar
        exact blt a2
      refine (store_int _ ga gb 65536 _ (at_ + 8 * (s / 16)) [xa] R HRR.out w9.heap.size 1 1 rfl (by have := HDJ.out.root; have := HSS.out.1; simp only [List.length_cons, List.length_nil]; omega) (by have := HDJ.out.root; omega) h10.ar (by have := SlR_new w9 #[.int .u64 v] 27; rw [HG.out.2.2.1] at this ⊢; exact this) (by omega) (by
        have hd9 := HDJ.out.leaf (s / 16) (by have := HSS.out; omega) (by rw [updF_same]; exact HG.out.2.1)
        rw [updF_same] at hd9
        simp only [List.mem_cons, List.not_mem_nil, or_false]
        rintro z rfl
        omega)).mono ?_
      rintro e w11 ⟨rfl, ha11, hg11⟩
      obtain ⟨h11, k11⟩ := h10.wrote hg11 ha11
      have r11 := k11 _ _ _ ((hb10.block _ (blt HR9.out)).trans HR9.out) tab_off
      have hT : TS W w11 pb tb qm fb ga gb b c xb at_ L (n + 1) l' (updF P 7 P') _ C' (updF lf (s / 16) xa) A B := ⟨h11, r11, HH.out.rel.leaf HH.out.dj (s / 16) xa (by have := HSS.out; omega) HL.out HDJ.out HG.out.2.1 (by
        have hd9 := HDJ.out.leaf (s / 16) (by have := HSS.out; omega) (by rw [updF_same]; exact HG.out.2.1)
        rw [updF_same] at hd9
        omega), GB.out.1, GB.out.2.1, GB.out.2.2, HH.out.ab⟩
      have HT := Lib.hid hT
      have K11 := Lib.hid ((K9.out.trans (KeepP.of_below hb10)).trans k11)
      obtain ⟨R2, hR2⟩ : ∃ R2 : Int, ((updF lf (s / 16) xa (s / 16) + s % 16 * 16 : Nat) : Int) = R2 := ⟨_, rfl⟩
      have t11 := hT.t0
      have HSP := Lib.hid (tspot (updF lf (s / 16) xa (s / 16)) s (by have := HDJ.out.leaf (s / 16) (by have := HSS.out; omega) (by rw [updF_same]; exact HG.out.2.1); omega) v S R2 (by rw [updF_same]; exact HG.out.2.2.1.symm) HSS.out.2 hR2 w11)
      have HST := Lib.hid (tstore hT s x y HSS.out.1 (fun e => absurd e HX0.out) (by rw [updF_same]; exact HG.out.2.1) HXY.out.1 HXY.out.2.1 R2 X Y hR2 HXY.out.2.2.1 HXY.out.2.2.2)
      clear hb10 h10 hgb ha11 hg11 h11 k11 r11 hT hR2 c0
      go_wp2_with fail
      refine (parena HT.out.pl).mono ?_
      rintro e w12 ⟨rfl, hw⟩
      have hw2 := hw.symm
      clear hw
      subst hw2
      go_wp2_with fail
      refine HSP.out.mono ?_
      rintro e w12 ⟨rfl, hw⟩
      have hw2 := hw.symm
      clear hw
      subst hw2
      go_wp2_with fail
      refine HST.out.mono ?_
      rintro e w13 ⟨rfl, h13, k13⟩
      have H13 := Lib.hid h13
      have K13 := Lib.hid (K11.out.trans k13)
      clear h13 k13 t11
      go_wp2
      go_ret
      have e1 := HG.out.2.2.2
      have e2 := HG.out.2.2.1
      subst e1 e2
      exact ⟨0, l', P', _, C', updF lf (s / 16) xa, updF A s x, updF B s y, rfl, .inr ⟨HL.out, _, _, HG9.out, .inr ⟨rfl, xa, rfl, HG.out.2.1, HG.out.1, rfl, rfl, rfl⟩⟩, H13.out, K13.out⟩
    · have q1 : (er != 0) = true := by simp [q]
      have HQ := Lib.hid q
      clear q
      go_wp2
      go_ret
      have hst : l' = l ∧ P' = P 7 ∧ f1 = f ∧ C' = C := by
        have hq := HQ.out
        revert hq
        cases HG9.out with
        | quota _ => exact fun _ => ⟨rfl, rfl, rfl, rfl⟩
        | none _ _ _ => exact fun _ => ⟨rfl, rfl, rfl, rfl⟩
        | yes _ a _ _ _ ht => exact fun h => absurd rfl h
      have h9 := H9.out
      obtain ⟨e1, e2, e3, e4⟩ := hst
      have hg := HG9.out
      subst e1 e2 e3 e4
      have h9' := h9
      rw [updF_eta] at h9'
      exact ⟨er, _, _, _, _, lf, A, B, rfl, .inr ⟨HL.out, _, _, hg, .inl ⟨HQ.out, rfl, rfl, rfl⟩⟩, by rw [updF_eta]; exact ⟨h9', HR9.out, HH.out.rel, HH.out.pat, HH.out.plf, HH.out.inj, HH.out.ab⟩, K9.out⟩
end
end Go.Proofs.YtflkoabgkgegjaaGreatDoor
/- The table's Clear. Condition: the table's state, and the tables of the text hold what their texts say. -/
namespace Go.Proofs.YtflkoabgkgegjaaGreatDoor
open Go.RowKit Go.Maps
section
variable {W w w' : World} {pb tb qm fb ga gb b : Nat} {c : Nat → Nat} {xb at_ L n : Nat} {l : List Tl} {P : Nat → List Pg} {f : Nat → Nat} {C : Nat} {lf A B : Nat → Nat}
theorem tset (h : TS W w pb tb qm fb ga gb b c xb at_ L n l P f C lf A B) (hZ : TabZ W) (hC : TabC W) (hn : n < 1000) (s x y : Nat) (hs : s < 256) (hx : x < 18446744073709551616) (hy : y < 18446744073709551616) (hx0 : x ≠ 0) (S X Y : Int) (hS : (s : Int) = S) (hX : (x : Int) = X) (hY : (y : Int) = Y) :
    Calls Tryz.prog 6 #[.pointer (some ⟨xb, 0, none⟩), .int .i64 S, .int .u64 X, .int .u64 Y] w fun e w' => ∃ er l' P' f' C' lf' A' B', e = .returned (.int .i64 er) ∧ SetR L l (P 7) f C lf A B s x y er l' P' C' lf' A' B' ∧ TS W w' pb tb qm fb ga gb b c xb at_ L (n + 1) l' (updF P 7 P') f' C' lf' A' B' ∧ KeepP w w' := by
  by_cases q : lf (s / 16) = 0
  · exact tset_new h hZ hC hn s x y hs q hx hy hx0 S X Y hS hX hY
  · refine (tset_there h s x y hs q hx hy hx0 S X Y hS hX hY).mono ?_
    rintro e w' ⟨rfl, h1, h2⟩
    exact ⟨0, l, P 7, _, C, lf, _, _, rfl, .inl ⟨q, rfl, rfl, rfl, rfl, rfl, rfl, rfl⟩, by rw [updF_eta]; exact h1.monon (Nat.le_succ _), h2⟩
set_option maxRecDepth 100000 in
theorem tempty (h : TS W w pb tb qm fb ga gb b c xb at_ L n l P f C lf A B) (j : Nat) (hj : j < 16) (hl : lf j ≠ 0) (V : Int) (hV : (lf j : Int) = V) (r : Bool) (hr : r = true ↔ ∀ i, i < 16 → A (16 * j + i) = 0) :
    Calls Tryz.prog 34 #[.pointer (some ⟨xb, 0, none⟩), .int .i64 V] w fun e w' => e = .returned (.bool r) ∧ w' = w := by
  have HH := Lib.hid h
  have HJ : Hid (j < 16 ∧ lf j ≠ 0 ∧ (lf j : Int) = V) := Lib.hid ⟨hj, hl, hV⟩
  have HR := Lib.hid hr
  clear h hj hl hV hr
  go_enter Tryz.func34, Tryz.ntmps34
  go_wp2_with fail
  go_loopw [5, 6] (fun _ v6 wr => wr = w ∧ ∃ k : Nat, k ≤ 16 ∧ v6 = .int .i64 (k : Int) ∧ ∀ i, i < k → A (16 * j + i) = 0) (fun _ v6 _ => 16 - (intOf v6).toNat)
  case atStart => exact ⟨rfl, 0, Nat.zero_le _, rfl, fun i h => absurd h (Nat.not_lt_zero _)⟩
  case round =>
    obtain ⟨rfl, k, hk, rfl, hz⟩ := hrel
    have HK := Lib.hid hz
    by_cases q : k < 16
    · have j1 : decide ((k : Int) < 16) = true := decide_eq_true (by omega)
      have zk : IntKind.i64.wrap ((k : Int) + 1) = (k : Int) + 1 := by rw [IntKind.wrap_i64]; omega
      obtain ⟨R, hR⟩ : ∃ R : Int, ((lf j + k % 16 * 16 : Nat) : Int) = R := ⟨_, rfl⟩
      obtain ⟨X, hX⟩ : ∃ X : Int, (A (16 * j + k) : Int) = X := ⟨_, rfl⟩
      have hd := HH.out.dj.leaf j HJ.out.1 HJ.out.2.1
      have he := HH.out.rel.ent j k HJ.out.1 q HJ.out.2.1
      have C1 := Lib.hid (tspot (lf j) k (by omega) V (k : Int) R HJ.out.2.2 rfl hR wr)
      have C2 := Lib.hid (tword HH.out (lf j + k % 16 * 16) R X hR (by rw [show lf j + k % 16 * 16 = lf j + 16 * k by omega, he.1]; exact hX) (by omega) (by omega))
      have HQ := Lib.hid q
      have HX := Lib.hid hX
      clear hk hz hd he hR hX q
      go_wp2_with fail
      refine C1.out.mono ?_
      rintro e w' ⟨rfl, hw⟩
      have hw2 := hw.symm
      clear hw
      subst hw2
      go_wp2_with fail
      refine C2.out.mono ?_
      rintro e w' ⟨rfl, hw⟩
      have hw2 := hw.symm
      clear hw
      subst hw2
      by_cases q : X = 0
      · have t1 : (X != 0) = false := by simp [q]
        have HN : Hid (∀ i, i < k + 1 → A (16 * j + i) = 0) := Lib.hid (fun i hi => by
          by_cases e : i = k
          · subst e
            have := HX.out
            omega
          · exact HK.out i (by omega))
        clear q
        go_wp2
        go_roundw
        case rel => exact ⟨by first | rfl | trivial, k + 1, HQ.out, by go_num, HN.out⟩
        case measure => have := HQ.out; (try simp [intOf]) <;> omega
      · have t1 : (X != 0) = true := by simp [q]
        have hrf : r = false := Bool.eq_false_iff.2 fun h => by
          have h1 := HR.out.1 h k HQ.out
          have := HX.out
          omega
        clear q
        subst hrf
        go_wp2
        go_ret
        exact ⟨rfl, rfl⟩
    · have j1 : decide ((k : Int) < 16) = false := decide_eq_false (by omega)
      have hrt : r = true := HR.out.2 fun i hi => HK.out i (by omega)
      clear hz hk q
      subst hrt
      go_wp2
      go_ret
      exact ⟨rfl, rfl⟩
theorem tclear_range (S : Int) (hS : S < 0 ∨ 255 < S) (w : World) : Calls Tryz.prog 7 #[.pointer (some ⟨xb, 0, none⟩), .int .i64 S] w fun e w' => e = .returned (.int .i64 2) ∧ w' = w := by
  have HG := Lib.hid (tget_out (xb := xb) S hS w)
  have HM := Lib.hid (tmay S false (by simp; omega) w)
  clear hS
  go_enter Tryz.func7, Tryz.ntmps7
  go_wp2_with fail
  refine HG.out.mono ?_
  rintro e w' ⟨rfl, hw⟩
  have hw2 := hw.symm
  clear hw
  subst hw2
  go_wp2_with fail
  refine HM.out.mono ?_
  rintro e w' ⟨rfl, hw⟩
  have hw2 := hw.symm
  clear hw
  subst hw2
  go_wp2
  go_ret
  exact ⟨rfl, rfl⟩
theorem tclear_none (h : TS W w pb tb qm fb ga gb b c xb at_ L n l P f C lf A B) (s : Nat) (hs : s < 256) (ha : A s = 0) (S : Int) (hS : (s : Int) = S) : Calls Tryz.prog 7 #[.pointer (some ⟨xb, 0, none⟩), .int .i64 S] w fun e w' => e = .returned (.int .i64 6) ∧ w' = w := by
  obtain ⟨Y, hY⟩ : ∃ Y : Int, (B s : Int) = Y := ⟨_, rfl⟩
  have HG := Lib.hid (tget_in h s hs S 0 Y hS (by omega) hY)
  have HM := Lib.hid (tmay S true (by simp; omega) w)
  clear h hs ha hS hY
  go_enter Tryz.func7, Tryz.ntmps7
  go_wp2_with fail
  refine HG.out.mono ?_
  rintro e w' ⟨rfl, hw⟩
  have hw2 := hw.symm
  clear hw
  subst hw2
  go_wp2_with fail
  refine HM.out.mono ?_
  rintro e w' ⟨rfl, hw⟩
  have hw2 := hw.symm
  clear hw
  subst hw2
  go_wp2
  go_ret
  exact ⟨rfl, rfl⟩
/-- what Clear does to an entry that is there -/
def ClearR (l : List Tl) (P7 : List Pg) (C : Nat) (lf A B : Nat → Nat) (s : Nat) (l' : List Tl) (P' : List Pg) (C' : Nat) (lf' A' B' : Nat → Nat) : Prop :=
  A' = updF A s 0 ∧ B' = updF B s 0 ∧ ((¬ (∀ i, i < 16 → updF A s 0 (16 * (s / 16) + i) = 0) ∧ l' = l ∧ P' = P7 ∧ C' = C ∧ lf' = lf) ∨
    ((∀ i, i < 16 → updF A s 0 (16 * (s / 16) + i) = 0) ∧ C' = C - 256 ∧ lf' = updF lf (s / 16) 0 ∧ (∀ y, y ∈ usedC (mC 7) (szC 7) P' ↔ y ∈ usedC (mC 7) (szC 7) P7 ∧ y ≠ ((lf (s / 16) : Nat) : Int)) ∧
      ((l' = l ∧ P'.map Pg.q = P7.map Pg.q) ∨ ∃ P1 p P2, P7 = P1 ++ p :: P2 ∧ P' = P1 ++ P2 ∧ ∃ a d, l = a ++ (0, false) :: d ∧ p.q = span a ∧ l' = melt 6 a.reverse 0 d)))
set_option maxRecDepth 100000 in
set_option maxHeartbeats 6400000 in
theorem tclear_yes (h : TS W w pb tb qm fb ga gb b c xb at_ L n l P f C lf A B) (hC : TabC W) (s : Nat) (hs : s < 256) (ha : A s ≠ 0) (hC2 : 256 ≤ C) (S : Int) (hS : (s : Int) = S) :
    Calls Tryz.prog 7 #[.pointer (some ⟨xb, 0, none⟩), .int .i64 S] w fun e w' => e = .returned (.int .i64 0) ∧ ∃ l' P' f' C' lf' A' B', ClearR l (P 7) C lf A B s l' P' C' lf' A' B' ∧ TS W w' pb tb qm fb ga gb b c xb at_ L n l' (updF P 7 P') f' C' lf' A' B' ∧ KeepP w w' := by
  have hl : lf (s / 16) ≠ 0 := fun e => ha (by
    have := h.rel.no (s / 16) (s % 16) (by omega) (by omega) e
    rw [show 16 * (s / 16) + s % 16 = s by omega] at this
    exact this.1)
  obtain ⟨X, hX⟩ : ∃ X : Int, (A s : Int) = X := ⟨_, rfl⟩
  obtain ⟨Y, hY⟩ : ∃ Y : Int, (B s : Int) = Y := ⟨_, rfl⟩
  obtain ⟨V, hV⟩ : ∃ V : Int, ((lf (s / 16) : Nat) : Int) = V := ⟨_, rfl⟩
  obtain ⟨R, hR⟩ : ∃ R : Int, ((lf (s / 16) + s % 16 * 16 : Nat) : Int) = R := ⟨_, rfl⟩
  have HG := Lib.hid (tget_in h s hs S X Y hS hX hY)
  have HM := Lib.hid (tmay S true (by simp; omega) w)
  have HLf := Lib.hid (tleaf h s hs S V hS hV)
  have HS := Lib.hid (tspot (lf (s / 16)) s (by have := h.dj.leaf (s / 16) (by omega) hl; omega) V S R hV hS hR w)
  have HST := Lib.hid (tstore h s 0 0 hs (fun _ => rfl) hl (by decide) (by decide) R 0 0 hR rfl rfl)
  have HH := Lib.hid h
  have HC := Lib.hid hC
  have HSS : Hid (s < 256 ∧ (s : Int) = S ∧ lf (s / 16) ≠ 0 ∧ 256 ≤ C ∧ ((lf (s / 16) : Nat) : Int) = V) := Lib.hid ⟨hs, hS, hl, hC2, hV⟩
  have t0 := h.t0
  have t1 : (X == 0) = false := by simp; omega
  clear h hs ha hC2 hS hX hY hV hR hl hC
  go_enter Tryz.func7, Tryz.ntmps7
  go_wp2_with fail
  refine HG.out.mono ?_
  rintro e w' ⟨rfl, hw⟩
  have hw2 := hw.symm
  clear hw
  subst hw2
  go_wp2_with fail
  refine HM.out.mono ?_
  rintro e w' ⟨rfl, hw⟩
  have hw2 := hw.symm
  clear hw
  subst hw2
  go_wp2_with fail
  refine HLf.out.mono ?_
  rintro e w' ⟨rfl, hw⟩
  have hw2 := hw.symm
  clear hw
  subst hw2
  go_wp2_with fail
  refine (parena HH.out.pl).mono ?_
  rintro e w' ⟨rfl, hw⟩
  have hw2 := hw.symm
  clear hw
  subst hw2
  go_wp2_with fail
  refine HS.out.mono ?_
  rintro e w' ⟨rfl, hw⟩
  have hw2 := hw.symm
  clear hw
  subst hw2
  go_wp2_with fail
  refine HST.out.mono ?_
  rintro e w3 ⟨rfl, h3, k3⟩
  have H3 := Lib.hid h3
  have K3 := Lib.hid k3
  obtain ⟨r, hrr⟩ : ∃ r : Bool, r = true ↔ ∀ i, i < 16 → updF A s 0 (16 * (s / 16) + i) = 0 := by
    by_cases q : ∀ i, i < 16 → updF A s 0 (16 * (s / 16) + i) = 0
    · exact ⟨true, fun _ => q, fun _ => rfl⟩
    · exact ⟨false, fun e => (Bool.noConfusion e), fun e => absurd e q⟩
  have c0 := h3.t0
  have HE := Lib.hid (tempty h3 (s / 16) (by have := HSS.out; omega) HSS.out.2.2.1 V HSS.out.2.2.2.2 r hrr)
  have HRR := Lib.hid hrr
  clear h3 k3 t0 hrr
  go_wp2_with fail
  refine HE.out.mono ?_
  rintro e w' ⟨rfl, hw⟩
  have hw2 := hw.symm
  clear hw
  subst hw2
  cases r with
  | false =>
    go_wp2
    go_ret
    refine ⟨rfl, l, P 7, _, C, lf, updF A s 0, updF B s 0, ⟨rfl, rfl, .inl ⟨fun hc => ?_, rfl, rfl, rfl, rfl⟩⟩, by rw [updF_eta]; exact H3.out, K3.out⟩
    have := HRR.out.2 hc
    cases this
  | true =>
    have hz := HRR.out.1 rfl
    have hdj := H3.out.dj
    obtain ⟨R1, hR1⟩ : ∃ R1 : Int, ((at_ + 8 * (s / 16) : Nat) : Int) = R1 := ⟨_, rfl⟩
    have C1 := Lib.hid (troot H3.out s HSS.out.1 S R1 HSS.out.2.1 hR1)
    have hb5 : Below w3.heap.size w3 (w3.alloc (.cells #[.int .u64 0] 27)) := (Below.refl _ w3).alloc (Nat.le_refl _) _
    have h5 := H3.out.below hb5
    have C2 := Lib.hid (store_int _ ga gb 65536 _ (at_ + 8 * (s / 16)) [0] R1 hR1 w3.heap.size 1 1 rfl (by have := hdj.root; have := HSS.out.1; simp only [List.length_cons, List.length_nil]; omega) (by have := hdj.root; omega) h5.pl.ar (SlR_new w3 #[.int .u64 0] 27) (by have := H3.out.gbne; omega) (by simp only [List.mem_cons, List.not_mem_nil, or_false]; rintro z rfl; decide))
    have HB5 := Lib.hid hb5
    have H5 := Lib.hid h5
    have HZ := Lib.hid hz
    clear hdj hR1 hb5 h5 hz
    go_wp2_with fail
    refine (parena H3.out.pl).mono ?_
    rintro e w' ⟨rfl, hw⟩
    have hw2 := hw.symm
    clear hw
    subst hw2
    go_wp2_with fail
    refine C1.out.mono ?_
    rintro e w' ⟨rfl, hw⟩
    have hw2 := hw.symm
    clear hw
    subst hw2
    go_wp2_with fail
    refine C2.out.mono ?_
    rintro e w6 ⟨rfl, ha6, hg6⟩
    obtain ⟨h6, k6⟩ := H5.out.pl.wrote hg6 ha6
    have r6 := k6 _ _ _ H5.out.row tab_off
    have H6 := Lib.hid h6
    have R6 := Lib.hid r6
    have K6 := Lib.hid ((K3.out.trans (KeepP.of_below HB5.out)).trans k6)
    clear c0 ha6 hg6 h6 k6 r6
    have hr6 : w6.cell? ⟨xb, 0, none⟩ = some (.pointer (some ⟨pb, 0, none⟩)) ∧ w6.cell? ⟨xb, 1, none⟩ = some (.int .i64 0) := ⟨(cell_of_row _ _ 0 _ _ _ R6.out).trans rfl, (cell_of_row _ _ 1 _ _ _ R6.out).trans rfl⟩
    obtain ⟨c0, c1⟩ := hr6
    go_wp2_with fail
    have hd := H6.out.below (Below.refl _ _).drew
    go_region_held3 (fun w' => w'.cell? ⟨xb, 0, none⟩ = some (.pointer (some ⟨pb, 0, none⟩)) ∧ w'.cell? ⟨xb, 1, none⟩ = some (.int .i64 0)) (first | (exact ⟨(cell_of_row _ _ 0 _ _ _ hr9).trans rfl, (cell_of_row _ _ 1 _ _ _ hr9).trans rfl⟩) | (exact ⟨(cell_of_row _ _ 0 _ _ _ R6.out).trans rfl, (cell_of_row _ _ 1 _ _ _ R6.out).trans rfl⟩)) (first | (go_at_call 35; (with_reducible refine (pput (by assumption) HC.out seven_mem 7 rfl V (by rw [← HSS.out.2.2.2.2]; exact HH.out.plf (s / 16) (by have := HSS.out; omega) HSS.out.2.2.1) HSS.out.2.2.2.1).mono ?_); rintro e w9 ⟨rfl, l', P', h9, k9, hu9, hc9⟩; have hr9 := k9 _ _ _ R6.out tab_off))
    all_goals
      have H9 := Lib.hid h9
      have HR9 := Lib.hid hr9
      have HU9 := Lib.hid hu9
      have HC9 := Lib.hid hc9
      have K9 := Lib.hid ((K6.out.trans (KeepP.of_below (Below.refl w6.heap.size w6).drew)).trans k9)
      clear hd h9 hr9 hu9 hc9 k9 c0 c1
      go_wp2
      go_ret
      have hV := HSS.out.2.2.2.2
      refine ⟨rfl, l', P', _, C - 256, updF lf (s / 16) 0, updF A s 0, updF B s 0, ⟨rfl, rfl, .inr ⟨HZ.out, rfl, rfl, by rw [hV]; exact HU9.out, HC9.out⟩⟩, ⟨H9.out, HR9.out, H3.out.rel.gone H3.out.dj (s / 16) (by have := HSS.out; omega) HSS.out.2.2.1 (fun i hi => ⟨HZ.out i hi, H3.out.ab _ (by have := HSS.out; omega) (HZ.out i hi)⟩), by rw [updF_other _ _ (by decide)]; exact HH.out.pat, fun i hi hn => ?_, fun i k hi hk hne hn => ?_, H3.out.ab⟩, K9.out⟩
      · rw [updF_same]
        by_cases e : i = s / 16
        · subst e
          rw [updF_same] at hn
          exact absurd rfl hn
        · rw [updF_other _ _ e] at hn ⊢
          refine (HU9.out _).2 ⟨HH.out.plf i hi hn, fun e2 => HH.out.inj i (s / 16) hi (by have := HSS.out; omega) e hn (by omega)⟩
      · by_cases e : i = s / 16
        · subst e
          rw [updF_same] at hn
          exact absurd rfl hn
        · rw [updF_other _ _ e] at hn ⊢
          by_cases e2 : k = s / 16
          · subst e2
            rw [updF_same]
            exact hn
          · rw [updF_other _ _ e2]
            exact HH.out.inj i k hi hk hne hn
end
end Go.Proofs.YtflkoabgkgegjaaGreatDoor
