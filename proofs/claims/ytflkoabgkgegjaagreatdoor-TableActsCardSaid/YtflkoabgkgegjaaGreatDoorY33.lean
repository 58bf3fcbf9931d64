/- The table's small functions, and Get. Condition: the table's state. And what follows from it. -/
import Derived.Test.YtflkoabgkgegjaaGreatDoorY30
import Derived.Test.YtflkoabgkgegjaaGreatDoorY32
/- The table's small functions, and Get. Condition: the table's state. -/
namespace Go.Proofs.YtflkoabgkgegjaaGreatDoor
open Go.RowKit Go.Maps

/-- a table over a pool: where its leaves are, its entries -/
structure TS (W w : World) (pb tb qm fb ga gb b : Nat) (c : Nat → Nat) (xb at_ L n : Nat) (l : List Tl) (P : Nat → List Pg) (f : Nat → Nat) (C : Nat) (lf A B : Nat → Nat) : Prop where
  pl : PL W w pb tb qm fb ga gb b c L n l P f C
  row : w.heap[xb]? = some (.cells #[.pointer (some ⟨pb, 0, none⟩), .int .i64 0, .int .i64 (at_ : Int)] 73 (0, 0))
  rel : TRel f at_ lf A B
  pat : (at_ : Int) ∈ usedC (mC 2) (szC 2) (P 2)
  plf : ∀ j, j < 16 → lf j ≠ 0 → (lf j : Int) ∈ usedC (mC 7) (szC 7) (P 7)
  inj : ∀ i j, i < 16 → j < 16 → i ≠ j → lf i ≠ 0 → lf i ≠ lf j
  ab : ∀ s, s < 256 → A s = 0 → B s = 0
theorem two_mem : 2 ∈ cls := by decide
theorem seven_mem : 7 ∈ cls := by decide
section
variable {W w w' : World} {pb tb qm fb ga gb b : Nat} {c : Nat → Nat} {xb at_ L n : Nat} {l : List Tl} {P : Nat → List Pg} {f : Nat → Nat} {C : Nat} {lf A B : Nat → Nat}
theorem dj_of (h : PL W w pb tb qm fb ga gb b c L n l P f C) (pat : (at_ : Int) ∈ usedC (mC 2) (szC 2) (P 2)) (plf : ∀ j, j < 16 → lf j ≠ 0 → (lf j : Int) ∈ usedC (mC 7) (szC 7) (P 7)) (inj : ∀ i j, i < 16 → j < 16 → i ≠ j → lf i ≠ 0 → lf i ≠ lf j) : DJ at_ lf := by
  obtain ⟨a, e1, e2, e3, e4⟩ := used_place (h.lay.lay 2 two_mem) h.good (cls_facts 2 two_mem).2.2.1 (sz16 two_mem) pat
  have e5 : at_ = a := by omega
  subst e5
  have hr : ∀ k ∈ cls, RisesQ (P k) := fun k hk => h.rise hk
  refine ⟨⟨e2, e3⟩, fun j hj hn => ?_, fun i j hi hj hne h1 h2 => ?_⟩
  · obtain ⟨x, x1, x2, x3, x4⟩ := used_place (h.lay.lay 7 seven_mem) h.good (cls_facts 7 seven_mem).2.2.1 (sz16 seven_mem) (plf j hj hn)
    have x5 : lf j = x := by omega
    have hp := places_apart h.lay hr two_mem seven_mem pat (plf j hj hn) (.inl (by decide))
    rw [x5] at hp ⊢
    exact ⟨x2, x3, x4, hp⟩
  · exact places_apart h.lay hr seven_mem seven_mem (plf i hi h1) (plf j hj h2) (.inr (inj i j hi hj hne h1))
theorem TS.dj (h : TS W w pb tb qm fb ga gb b c xb at_ L n l P f C lf A B) : DJ at_ lf := dj_of h.pl h.pat h.plf h.inj
theorem TS.below (h : TS W w pb tb qm fb ga gb b c xb at_ L n l P f C lf A B) (hb : Below w.heap.size w w') : TS W w' pb tb qm fb ga gb b c xb at_ L n l P f C lf A B :=
  ⟨h.pl.below hb, (hb.block _ (blt h.row)).trans h.row, h.rel, h.pat, h.plf, h.inj, h.ab⟩
theorem TS.monon {n' : Nat} (h : TS W w pb tb qm fb ga gb b c xb at_ L n l P f C lf A B) (hn : n ≤ n') : TS W w pb tb qm fb ga gb b c xb at_ L n' l P f C lf A B := ⟨h.pl.monon hn, h.row, h.rel, h.pat, h.plf, h.inj, h.ab⟩
theorem TS.way (h : TS W w pb tb qm fb ga gb b c xb at_ L n l P f C lf A B) : Below W.heap.size W w := h.pl.way
theorem TS.t0 (h : TS W w pb tb qm fb ga gb b c xb at_ L n l P f C lf A B) : w.cell? ⟨xb, 0, none⟩ = some (.pointer (some ⟨pb, 0, none⟩)) := (cell_of_row _ _ 0 _ _ _ h.row).trans rfl
theorem TS.t1 (h : TS W w pb tb qm fb ga gb b c xb at_ L n l P f C lf A B) : w.cell? ⟨xb, 1, none⟩ = some (.int .i64 0) := (cell_of_row _ _ 1 _ _ _ h.row).trans rfl
theorem TS.t2 (h : TS W w pb tb qm fb ga gb b c xb at_ L n l P f C lf A B) : w.cell? ⟨xb, 2, none⟩ = some (.int .i64 (at_ : Int)) := (cell_of_row _ _ 2 _ _ _ h.row).trans rfl
theorem load_int (w : World) (ga gb N : Nat) (f : Nat → Nat) (p : Nat) (X V : Int) (hX : (p : Int) = X) (hV : ((wdF f p : Nat) : Int) = V) (hp : p + 8 ≤ N) (h8 : p % 8 = 0) (h : Ar.ArAt w ga gb N f) :
    Calls Tryz.prog 27 #[.pointer (some ⟨ga, 0, none⟩), .int .i64 X] w fun e w' => e = .returned (.tuple #[.int .u64 V, .int .i64 0]) ∧ w' = w := by
  subst hX hV
  exact Ar.load_yes w ga gb N f p hp h8 h
set_option maxRecDepth 100000 in
theorem tword (h : TS W w pb tb qm fb ga gb b c xb at_ L n l P f C lf A B) (p : Nat) (X V : Int) (hX : (p : Int) = X) (hV : ((wdF f p : Nat) : Int) = V) (hp : p + 8 ≤ 65536) (h8 : p % 8 = 0) :
    Calls Tryz.prog 31 #[.pointer (some ⟨xb, 0, none⟩), .int .i64 X] w fun e w' => e = .returned (.int .u64 V) ∧ w' = w := by
  have t0 := h.t0
  have HH := Lib.hid h
  have HL := Lib.hid (load_int w ga gb 65536 f p X V hX hV hp h8 h.pl.ar)
  clear h hX hV hp h8
  go_enter Tryz.func31, Tryz.ntmps31
  go_wp2_with fail
  refine (parena HH.out.pl).mono ?_
  rintro e w' ⟨rfl, hw⟩
  have hw2 := hw.symm
  clear hw
  subst hw2
  go_wp2_with fail
  refine HL.out.mono ?_
  rintro e w' ⟨rfl, hw⟩
  have hw2 := hw.symm
  clear hw
  subst hw2
  go_wp2
  go_ret
  exact ⟨rfl, rfl⟩
set_option maxRecDepth 100000 in
theorem troot (h : TS W w pb tb qm fb ga gb b c xb at_ L n l P f C lf A B) (s : Nat) (hs : s < 256) (S R : Int) (hS : (s : Int) = S) (hR : ((at_ + 8 * (s / 16) : Nat) : Int) = R) :
    Calls Tryz.prog 33 #[.pointer (some ⟨xb, 0, none⟩), .int .i64 S] w fun e w' => e = .returned (.int .i64 R) ∧ w' = w := by
  have hd := h.dj.root
  obtain ⟨X, hX⟩ : ∃ X : Int, (at_ : Int) = X := ⟨_, rfl⟩
  have t2 := h.t2
  rw [hX] at t2
  obtain ⟨D, hD⟩ : ∃ D : Int, ((s / 16 : Nat) : Int) = D := ⟨_, rfl⟩
  obtain ⟨E, hE⟩ : ∃ E : Int, D * 8 = E := ⟨_, rfl⟩
  have z1 : S.tdiv 16 = D := by rw [← hS, Int.tdiv_eq_ediv_of_nonneg (by omega)]; omega
  have z2 : IntKind.i64.wrap D = D := by rw [IntKind.wrap_i64]; omega
  have z3 : wrap64 D = D := by unfold wrap64; omega
  have z4 : IntKind.i64.wrap (D * 8) = E := by rw [IntKind.wrap_i64]; omega
  have z5 : IntKind.i64.wrap (X + E) = R := by rw [IntKind.wrap_i64]; omega
  clear h hd hX hD hE hS hR hs
  go_enter Tryz.func33, Tryz.ntmps33
  go_wp2
  go_ret
  exact ⟨rfl, rfl⟩
set_option maxRecDepth 100000 in
theorem tspot (x s : Nat) (hx : x ≤ 65536) (X S R : Int) (hX : (x : Int) = X) (hS : (s : Int) = S) (hR : ((x + s % 16 * 16 : Nat) : Int) = R) (w : World) :
    Calls Tryz.prog 30 #[.int .i64 X, .int .i64 S] w fun e w' => e = .returned (.int .i64 R) ∧ w' = w := by
  obtain ⟨D, hD⟩ : ∃ D : Int, ((s % 16 : Nat) : Int) = D := ⟨_, rfl⟩
  obtain ⟨E, hE⟩ : ∃ E : Int, D * 16 = E := ⟨_, rfl⟩
  have z1 : S.tmod 16 = D := by rw [← hS, Int.tmod_eq_emod_of_nonneg (by omega)]; omega
  have z4 : IntKind.i64.wrap (D * 16) = E := by rw [IntKind.wrap_i64]; omega
  have z5 : IntKind.i64.wrap (X + E) = R := by rw [IntKind.wrap_i64]; omega
  clear hx hX hD hE hS hR
  go_enter Tryz.func30, Tryz.ntmps30
  go_wp2
  go_ret
  exact ⟨rfl, rfl⟩
set_option maxRecDepth 100000 in
theorem tmay (S : Int) (B : Bool) (hB : decide (0 ≤ S ∧ S < 256) = B) (w : World) : Calls Tryz.prog 28 #[.int .i64 S] w fun e w' => e = .returned (.bool B) ∧ w' = w := by
  by_cases q : 0 ≤ S
  · have t1 : decide (0 ≤ S) = true := decide_eq_true q
    have t2 : decide (S < 256) = B := by rw [← hB]; simp [q]
    clear hB q
    go_enter Tryz.func28, Tryz.ntmps28
    go_wp2
    go_ret
    exact ⟨rfl, rfl⟩
  · have t1 : decide (0 ≤ S) = false := decide_eq_false q
    have t2 : B = false := by rw [← hB]; simp [q]
    subst t2
    clear hB q
    go_enter Tryz.func28, Tryz.ntmps28
    go_wp2
    go_ret
    exact ⟨rfl, rfl⟩
set_option maxRecDepth 100000 in
theorem tleaf (h : TS W w pb tb qm fb ga gb b c xb at_ L n l P f C lf A B) (s : Nat) (hs : s < 256) (S V : Int) (hS : (s : Int) = S) (hV : ((lf (s / 16) : Nat) : Int) = V) :
    Calls Tryz.prog 29 #[.pointer (some ⟨xb, 0, none⟩), .int .i64 S] w fun e w' => e = .returned (.int .i64 V) ∧ w' = w := by
  obtain ⟨R, hR⟩ : ∃ R : Int, ((at_ + 8 * (s / 16) : Nat) : Int) = R := ⟨_, rfl⟩
  have hd := h.dj
  have hv : lf (s / 16) ≤ 65536 := by
    by_cases q : lf (s / 16) = 0
    · omega
    · have := hd.leaf (s / 16) (by omega) q
      omega
  have zl : IntKind.i64.wrap V = V := by rw [IntKind.wrap_i64]; omega
  have C1 := Lib.hid (troot h s hs S R hS hR)
  have C2 := Lib.hid (tword h (at_ + 8 * (s / 16)) R V hR (by rw [h.rel.root (s / 16) (by omega)]; exact hV) (by have := hd.root; omega) (by have := hd.root; omega))
  clear h hs hS hV hR hd hv
  go_enter Tryz.func29, Tryz.ntmps29
  go_wp2_with fail
  refine C1.out.mono ?_
  rintro e w' ⟨rfl, hw⟩
  have hw2 := hw.symm
  clear hw
  subst hw2
  go_wp2_with fail
  refine C2.out.mono ?_
  rintro e w' ⟨rfl, hw⟩
  have hw2 := hw.symm
  clear hw
  subst hw2
  go_wp2
  go_ret
  exact ⟨rfl, rfl⟩
set_option maxRecDepth 100000 in
theorem tget_out (S : Int) (hS : S < 0 ∨ 255 < S) (w : World) : Calls Tryz.prog 5 #[.pointer (some ⟨xb, 0, none⟩), .int .i64 S] w fun e w' => e = .returned (.tuple #[.int .u64 0, .int .u64 0]) ∧ w' = w := by
  have HM := Lib.hid (tmay S false (by simp; omega) w)
  clear hS
  go_enter Tryz.func5, Tryz.ntmps5
  go_wp2_with fail
  refine HM.out.mono ?_
  rintro e w' ⟨rfl, hw⟩
  have hw2 := hw.symm
  clear hw
  subst hw2
  go_wp2
  go_ret2
  exact ⟨rfl, rfl⟩
set_option maxRecDepth 100000 in
set_option maxHeartbeats 1600000 in
theorem tget_in (h : TS W w pb tb qm fb ga gb b c xb at_ L n l P f C lf A B) (s : Nat) (hs : s < 256) (S X Y : Int) (hS : (s : Int) = S) (hX : (A s : Int) = X) (hY : (B s : Int) = Y) :
    Calls Tryz.prog 5 #[.pointer (some ⟨xb, 0, none⟩), .int .i64 S] w fun e w' => e = .returned (.tuple #[.int .u64 X, .int .u64 Y]) ∧ w' = w := by
  have HM := Lib.hid (tmay S true (by simp; omega) w)
  obtain ⟨V, hV⟩ : ∃ V : Int, ((lf (s / 16) : Nat) : Int) = V := ⟨_, rfl⟩
  have HLf := Lib.hid (tleaf h s hs S V hS hV)
  have es : s = 16 * (s / 16) + s % 16 := by omega
  by_cases q : lf (s / 16) = 0
  · have t1 : (V == 0) = true := by simp; omega
    have hz := h.rel.no (s / 16) (s % 16) (by omega) (by omega) q
    rw [← es] at hz
    have eX : X = 0 := by omega
    have eY : Y = 0 := by omega
    subst eX eY
    clear h hs hS hX hY hV es q hz
    go_enter Tryz.func5, Tryz.ntmps5
    go_wp2_with fail
    refine HM.out.mono ?_
    rintro e w' ⟨rfl, hw⟩
    have hw2 := hw.symm
    clear hw
    subst hw2
    go_wp2_with fail
    refine HLf.out.mono ?_
    rintro e w' ⟨rfl, hw⟩
    have hw2 := hw.symm
    clear hw
    subst hw2
    go_wp2
    go_ret2
    exact ⟨rfl, rfl⟩
  · have t1 : (V == 0) = false := by simp; omega
    have hd := h.dj.leaf (s / 16) (by omega) q
    have he := h.rel.ent (s / 16) (s % 16) (by omega) (by omega) q
    rw [← es] at he
    obtain ⟨R, hR⟩ : ∃ R : Int, ((lf (s / 16) + s % 16 * 16 : Nat) : Int) = R := ⟨_, rfl⟩
    have z1 : IntKind.i64.wrap (R + 8) = R + 8 := by rw [IntKind.wrap_i64]; omega
    have HS := Lib.hid (tspot (lf (s / 16)) s (by omega) V S R hV hS hR w)
    have W1 := Lib.hid (tword h (lf (s / 16) + s % 16 * 16) R X hR (by rw [show lf (s / 16) + s % 16 * 16 = lf (s / 16) + 16 * (s % 16) by omega, he.1]; exact hX) (by omega) (by omega))
    have W2 := Lib.hid (tword h (lf (s / 16) + s % 16 * 16 + 8) (R + 8) Y (by omega) (by rw [show lf (s / 16) + s % 16 * 16 + 8 = lf (s / 16) + 16 * (s % 16) + 8 by omega, he.2]; exact hY) (by omega) (by omega))
    clear h hs hS hX hY hV es q hd he hR
    go_enter Tryz.func5, Tryz.ntmps5
    go_wp2_with fail
    refine HM.out.mono ?_
    rintro e w' ⟨rfl, hw⟩
    have hw2 := hw.symm
    clear hw
    subst hw2
    go_wp2_with fail
    refine HLf.out.mono ?_
    rintro e w' ⟨rfl, hw⟩
    have hw2 := hw.symm
    clear hw
    subst hw2
    go_wp2_with fail
    refine HLf.out.mono ?_
    rintro e w' ⟨rfl, hw⟩
    have hw2 := hw.symm
    clear hw
    subst hw2
    go_wp2_with fail
    refine HS.out.mono ?_
    rintro e w' ⟨rfl, hw⟩
    have hw2 := hw.symm
    clear hw
    subst hw2
    go_wp2_with fail
    refine W1.out.mono ?_
    rintro e w' ⟨rfl, hw⟩
    have hw2 := hw.symm
    clear hw
    subst hw2
    go_wp2_with fail
    refine W2.out.mono ?_
    rintro e w' ⟨rfl, hw⟩
    have hw2 := hw.symm
    clear hw
    subst hw2
    go_wp2
    go_ret2
    exact ⟨rfl, rfl⟩
end
end Go.Proofs.YtflkoabgkgegjaaGreatDoor
/- The table's Set. Condition: the table's state, and the tables of the text hold what their texts say. -/
namespace Go.Proofs.YtflkoabgkgegjaaGreatDoor
open Go.RowKit Go.Maps

theorem store_int (w : World) (ga gb N : Nat) (f : Nat → Nat) (p : Nat) (l : List Nat) (X : Int) (hX : (p : Int) = X) (B m cap : Nat) (hm : m = l.length) (hp : p + l.length * 8 ≤ N) (h8 : p % 8 = 0) (h : Ar.ArAt w ga gb N f) (hs : SlR w (some ⟨B, 0, none⟩) (u64s l)) (hB : B ≠ gb) (hl : ∀ x ∈ l, x < 18446744073709551616) :
    Calls Tryz.prog 32 #[.pointer (some ⟨ga, 0, none⟩), .int .i64 X, .slice (some ⟨B, 0, none⟩) m cap] w fun e w' => e = .returned (.int .i64 0) ∧ Ar.ArAt w' ga gb N (Ar.storeF f p l (l.length * 8)) ∧ w.grownBy w' (some gb) := by
  subst hX hm
  exact Ar.store_yes w ga gb N f p l _ cap hp h8 h hs (fun _ a ha => by injection ha with ha; rw [← ha]; exact hB) hl
/-- what Set does, where it may -/
def SetR (L : Nat) (l : List Tl) (P7 : List Pg) (f : Nat → Nat) (C : Nat) (lf A B : Nat → Nat) (s a b : Nat) (er : Int) (l' : List Tl) (P' : List Pg) (C' : Nat) (lf' A' B' : Nat → Nat) : Prop :=
  (lf (s / 16) ≠ 0 ∧ er = 0 ∧ l' = l ∧ P' = P7 ∧ C' = C ∧ lf' = lf ∧ A' = updF A s a ∧ B' = updF B s b) ∨
  (lf (s / 16) = 0 ∧ ∃ x f1, GetS L 7 l P7 f C x er l' P' f1 C' ∧ ((er ≠ 0 ∧ lf' = lf ∧ A' = A ∧ B' = B) ∨ (er = 0 ∧ ∃ xa : Nat, x = (xa : Int) ∧ xa ≠ 0 ∧ (∀ y, y ∈ usedC (mC 7) (szC 7) P' ↔ y ∈ usedC (mC 7) (szC 7) P7 ∨ y = x) ∧ lf' = updF lf (s / 16) xa ∧ A' = updF A s a ∧ B' = updF B s b)))
section
variable {W w w' : World} {pb tb qm fb ga gb b : Nat} {c : Nat → Nat} {xb at_ L n : Nat} {l : List Tl} {P : Nat → List Pg} {f : Nat → Nat} {C : Nat} {lf A B : Nat → Nat}
theorem tab_off : OffP 73 := ⟨⟨by decide, by decide, by decide⟩, by decide, by decide⟩
/-- two words are stored in a leaf's entry -/
theorem TS.stored (h : TS W w pb tb qm fb ga gb b c xb at_ L n l P f C lf A B) (s x y : Nat) (hs : s < 256) (hxy : x = 0 → y = 0) (hl : lf (s / 16) ≠ 0) (hx : x < 18446744073709551616) (hy : y < 18446744073709551616)
    (hg : w.grownBy w' (some gb)) (ha : Ar.ArAt w' ga gb 65536 (Ar.storeF f (lf (s / 16) + s % 16 * 16) [x, y] ([x, y].length * 8))) :
    TS W w' pb tb qm fb ga gb b c xb at_ L n l P (Ar.storeF f (lf (s / 16) + s % 16 * 16) [x, y] 16) C lf (updF A s x) (updF B s y) ∧ KeepP w w' := by
  obtain ⟨h1, h2⟩ := h.pl.wrote hg ha
  exact ⟨⟨h1, h2 _ _ _ h.row tab_off, h.rel.put h.dj s x y hs hl hx hy, h.pat, h.plf, h.inj, fun t ht => by
    by_cases e : t = s
    · subst e
      rw [updF_same, updF_same]
      exact hxy
    · rw [updF_other _ _ e, updF_other _ _ e]
      exact h.ab t ht⟩, h2⟩
theorem TS.gbne (h : TS W w pb tb qm fb ga gb b c xb at_ L n l P f C lf A B) : gb < w.heap.size := by
  obtain ⟨_, ⟨cs, a2, _⟩, _⟩ := h.pl.ar
  exact blt a2
/-- the entry's store -/
theorem tstore (h : TS W w pb tb qm fb ga gb b c xb at_ L n l P f C lf A B) (s x y : Nat) (hs : s < 256) (hxy : x = 0 → y = 0) (hl : lf (s / 16) ≠ 0) (hx : x < 18446744073709551616) (hy : y < 18446744073709551616) (R X Y : Int) (hR : ((lf (s / 16) + s % 16 * 16 : Nat) : Int) = R) (hX : (x : Int) = X) (hY : (y : Int) = Y) :
    Calls Tryz.prog 32 #[.pointer (some ⟨ga, 0, none⟩), .int .i64 R, .slice (some ⟨w.heap.size, 0, none⟩) 2 2] (w.alloc (.cells #[.int .u64 X, .int .u64 Y] 27)) fun e w' => e = .returned (.int .i64 0) ∧ TS W w' pb tb qm fb ga gb b c xb at_ L n l P (Ar.storeF f (lf (s / 16) + s % 16 * 16) [x, y] 16) C lf (updF A s x) (updF B s y) ∧ KeepP w w' := by
  subst hX hY
  have hb : Below w.heap.size w (w.alloc (.cells #[.int .u64 (x : Int), .int .u64 (y : Int)] 27)) := (Below.refl _ w).alloc (Nat.le_refl _) _
  have h2 := h.below hb
  have hd := h.dj.leaf (s / 16) (by omega) hl
  refine (store_int _ ga gb 65536 f (lf (s / 16) + s % 16 * 16) [x, y] R hR w.heap.size 2 2 rfl (by simp only [List.length_cons, List.length_nil]; omega) (by omega) h2.pl.ar (SlR_new w #[.int .u64 (x : Int), .int .u64 (y : Int)] 27) (by have := h.gbne; omega) (by simp only [List.mem_cons, List.not_mem_nil, or_false]; rintro z (rfl | rfl) <;> assumption)).mono ?_
  rintro e w' ⟨rfl, ha, hg⟩
  obtain ⟨h3, h4⟩ := h2.stored s x y hs hxy hl hx hy hg ha
  exact ⟨rfl, h3, (KeepP.of_below hb).trans h4⟩
theorem tset_range (S : Int) (hS : S < 0 ∨ 255 < S) (x y : Int) (w : World) : Calls Tryz.prog 6 #[.pointer (some ⟨xb, 0, none⟩), .int .i64 S, .int .u64 x, .int .u64 y] w fun e w' => e = .returned (.int .i64 2) ∧ w' = w := by
  have HM := Lib.hid (tmay S false (by simp; omega) w)
  clear hS
  go_enter Tryz.func6, Tryz.ntmps6
  go_wp2_with fail
  refine HM.out.mono ?_
  rintro e w' ⟨rfl, hw⟩
  have hw2 := hw.symm
  clear hw
  subst hw2
  go_wp2
  go_ret
  exact ⟨rfl, rfl⟩
theorem tset_zero (S : Int) (hS : 0 ≤ S ∧ S < 256) (y : Int) (w : World) : Calls Tryz.prog 6 #[.pointer (some ⟨xb, 0, none⟩), .int .i64 S, .int .u64 0, .int .u64 y] w fun e w' => e = .returned (.int .i64 1) ∧ w' = w := by
  have HM := Lib.hid (tmay S true (by simp; omega) w)
  clear hS
  go_enter Tryz.func6, Tryz.ntmps6
  go_wp2_with fail
  refine HM.out.mono ?_
  rintro e w' ⟨rfl, hw⟩
  have hw2 := hw.symm
  clear hw
  subst hw2
  go_wp2
  go_ret
  exact ⟨rfl, rfl⟩
set_option maxRecDepth 100000 in
set_option maxHeartbeats 3200000 in
theorem tset_there (h : TS W w pb tb qm fb ga gb b c xb at_ L n l P f C lf A B) (s x y : Nat) (hs : s < 256) (hl : lf (s / 16) ≠ 0) (hx : x < 18446744073709551616) (hy : y < 18446744073709551616) (hx0 : x ≠ 0) (S X Y : Int) (hS : (s : Int) = S) (hX : (x : Int) = X) (hY : (y : Int) = Y) :
    Calls Tryz.prog 6 #[.pointer (some ⟨xb, 0, none⟩), .int .i64 S, .int .u64 X, .int .u64 Y] w fun e w' => e = .returned (.int .i64 0) ∧ TS W w' pb tb qm fb ga gb b c xb at_ L n l P (Ar.storeF f (lf (s / 16) + s % 16 * 16) [x, y] 16) C lf (updF A s x) (updF B s y) ∧ KeepP w w' := by
  have HM := Lib.hid (tmay S true (by simp; omega) w)
  obtain ⟨V, hV⟩ : ∃ V : Int, ((lf (s / 16) : Nat) : Int) = V := ⟨_, rfl⟩
  obtain ⟨R, hR⟩ : ∃ R : Int, ((lf (s / 16) + s % 16 * 16 : Nat) : Int) = R := ⟨_, rfl⟩
  have HLf := Lib.hid (tleaf h s hs S V hS hV)
  have HS := Lib.hid (tspot (lf (s / 16)) s (by have := h.dj.leaf (s / 16) (by omega) hl; omega) V S R hV hS hR w)
  have HST := Lib.hid (tstore h s x y hs (fun e => absurd e hx0) hl hx hy R X Y hR hX hY)
  have HH := Lib.hid h
  have t0 := h.t0
  have t1 : (V == 0) = false := by simp; omega
  have t2 : (X == 0) = false := by simp; omega
  clear h hs hl hx hy hx0 hS hX hY hV hR
  go_enter Tryz.func6, Tryz.ntmps6
  go_wp2_with fail
  refine HM.out.mono ?_
  rintro e w' ⟨rfl, hw⟩
  have hw2 := hw.symm
  clear hw
  subst hw2
  go_wp2_with fail
  refine HLf.out.mono ?_
  rintro e w' ⟨rfl, hw⟩
  have hw2 := hw.symm
  clear hw
  subst hw2
  go_wp2_with fail
  refine (parena HH.out.pl).mono ?_
  rintro e w' ⟨rfl, hw⟩
  have hw2 := hw.symm
  clear hw
  subst hw2
  go_wp2_with fail
  refine HS.out.mono ?_
  rintro e w' ⟨rfl, hw⟩
  have hw2 := hw.symm
  clear hw
  subst hw2
  go_wp2_with fail
  refine HST.out.mono ?_
  rintro e w' ⟨rfl, h3, h4⟩
  have H3 := Lib.hid h3
  have H4 := Lib.hid h4
  clear h3 h4
  go_wp2
  go_ret
  exact ⟨rfl, H3.out, H4.out⟩
end
end Go.Proofs.YtflkoabgkgegjaaGreatDoor
