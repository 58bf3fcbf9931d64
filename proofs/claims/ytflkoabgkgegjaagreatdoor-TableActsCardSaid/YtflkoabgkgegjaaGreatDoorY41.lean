/- A table that isn't there; a pool that may not be. No condition. And what follows from it. -/
import Derived.Test.YtflkoabgkgegjaaGreatDoorY40
import Derived.Test.YtflkoabgkgegjaaGreatDoorY32
import Derived.Test.YtflkoabgkgegjaaGreatDoorY35
import Derived.Test.YtflkoabgkgegjaaGreatDoorY28
import Derived.Laws.Tables
import Derived.KernelRfl
import Derived.Test.YtflkoabgkgegjaaGreatDoorY36
/- A table that isn't there; a pool that may not be. No condition. -/
namespace Go.Proofs.YtflkoabgkgegjaaGreatDoor
open Go.RowKit Go.Maps
set_option maxRecDepth 100000 in
theorem nget (S : Int) (w : World) : Calls Tryz.prog 5 #[.pointer none, .int .i64 S] w fun e w' => e = .returned (.tuple #[.int .u64 0, .int .u64 0]) ∧ w' = w := by
  go_enter Tryz.func5, Tryz.ntmps5
  go_wp2
  go_ret2
  exact ⟨rfl, rfl⟩
set_option maxRecDepth 100000 in
theorem nset (S x y : Int) (w : World) : Calls Tryz.prog 6 #[.pointer none, .int .i64 S, .int .u64 x, .int .u64 y] w fun e w' => e = .returned (.int .i64 1) ∧ w' = w := by
  go_enter Tryz.func6, Tryz.ntmps6
  go_wp2
  go_ret
  exact ⟨rfl, rfl⟩
set_option maxRecDepth 100000 in
theorem nclear (S : Int) (w : World) : Calls Tryz.prog 7 #[.pointer none, .int .i64 S] w fun e w' => e = .returned (.int .i64 1) ∧ w' = w := by
  go_enter Tryz.func7, Tryz.ntmps7
  go_wp2_with fail
  refine (nget S _).mono ?_
  rintro e w' ⟨rfl, hw⟩
  have hw2 := hw.symm
  clear hw
  subst hw2
  go_wp2
  go_ret
  exact ⟨rfl, rfl⟩
set_option maxRecDepth 100000 in
theorem nslots (w : World) : Calls Tryz.prog 8 #[.pointer none] w fun e w' => e = .returned (.slice none 0 0) ∧ w' = w := by
  go_enter Tryz.func8, Tryz.ntmps8
  go_wp2_with fail
  go_loopw [3, 4, 5, 6, 7] (fun v3 _ _ _ v7 wr => ∃ k : Nat, v7 = .int .i64 (k : Int) ∧ k ≤ 256 ∧ v3 = .slice none 0 0 ∧ wr = w) (fun _ _ _ _ v7 _ => 256 - (intOf v7).toNat)
  case atStart => exact ⟨0, rfl, Nat.zero_le _, rfl, rfl⟩
  case round =>
    obtain ⟨k, rfl, hk, rfl, rfl⟩ := hrel
    by_cases q : k < 256
    · have j1 : decide ((k : Int) < 256) = true := decide_eq_true (by omega)
      have zk : IntKind.i64.wrap ((k : Int) + 1) = (k : Int) + 1 := by rw [IntKind.wrap_i64]; omega
      have HQ := Lib.hid q
      clear q hk
      go_wp2_with fail
      refine (nget _ _).mono ?_
      rintro e w' ⟨rfl, hw⟩
      have hw2 := hw.symm
      clear hw
      subst hw2
      go_wp2
      go_roundw
      case rel => exact ⟨k + 1, by go_num, HQ.out, by first | rfl | trivial, by first | rfl | trivial⟩
      case measure => have := HQ.out; (try simp [intOf]) <;> omega
    · have j1 : decide ((k : Int) < 256) = false := decide_eq_false (by omega)
      clear hk q
      go_wp2
      go_ret
      exact ⟨rfl, rfl⟩
set_option maxRecDepth 100000 in
theorem nleaves (w : World) : Calls Tryz.prog 9 #[.pointer none] w fun e w' => e = .returned (.slice none 0 0) ∧ w' = w := by
  go_enter Tryz.func9, Tryz.ntmps9
  go_wp2_with fail
  refine wp_loop_rounds 1 ?_
  rw [rounds_succ]
  go_wp2
  go_ret
  exact ⟨rfl, rfl⟩
set_option maxRecDepth 100000 in
theorem nneed (v : Value) (w : World) : Calls Tryz.prog 10 #[.pointer none, v] w fun e w' => e = .returned (.int .i64 0) ∧ w' = w := by
  go_enter Tryz.func10, Tryz.ntmps10
  go_wp2
  go_ret
  exact ⟨rfl, rfl⟩
end Go.Proofs.YtflkoabgkgegjaaGreatDoor
/- A pool that may not be; At of no pool. Condition: the tables hold what their texts say. -/
namespace Go.Proofs.YtflkoabgkgegjaaGreatDoor
open Go.RowKit Go.Maps
set_option maxRecDepth 100000 in
theorem nhas (k X : Int) (w : World) : Calls Tryz.prog 39 #[.pointer none, .int .i64 k, .int .i64 X] w fun e w' => e = .returned (.bool false) ∧ w' = w := by
  go_enter Tryz.func39, Tryz.ntmps39
  go_wp2
  go_ret
  exact ⟨rfl, rfl⟩
set_option maxRecDepth 100000 in
theorem nat_ (X : Int) (w : World) : Calls Tryz.prog 11 #[.pointer none, .int .i64 0, .int .i64 X] w fun e w' => e = .returned (.pointer none) ∧ w' = w := by
  go_enter Tryz.func11, Tryz.ntmps11
  go_wp2_with fail
  refine (nhas 2 X _).mono ?_
  rintro e w' ⟨rfl, hw⟩
  have hw2 := hw.symm
  clear hw
  subst hw2
  go_wp2
  go_ret
  exact ⟨rfl, rfl⟩
set_option maxRecDepth 100000 in
set_option maxHeartbeats 6400000 in
theorem pnew_no (L : Nat) (hL : 65536 < L ∧ L ≤ 1048576) (LL : Int) (hLL : (L : Int) = LL) (w : World) (hZ : TabZ w) :
    Calls Tryz.prog 12 #[.int .i64 65536, .int .i64 LL] w fun e w' => e = .returned (.pointer none) ∧ Below w.heap.size w w' := by
  have t1 : decide (65536 < LL) = true := decide_eq_true (by omega)
  have HZ := Lib.hid hZ
  have HL : Hid (65536 < L ∧ L ≤ 1048576) := Lib.hid hL
  have HLL := Lib.hid hLL
  clear hZ hL hLL
  go_enter Tryz.func12, Tryz.ntmps12
  go_wp2_with fail
  refine (qnew L (by have := HL.out; omega) LL HLL.out _).mono ?_
  rintro e w1 ⟨tb, qm, fb, rfl, n1, n2, n3, hq, hb1⟩
  have HB1 := Lib.hid hb1
  clear hq hb1 n1 n2 n3
  go_wp2_with fail
  refine (new_g 65536 6 65536 rfl (by decide) (by omega) (by omega) _ (HZ.out.below HZ.out.lt HB1.out)).mono ?_
  rintro e w2 ⟨b, gm, gw, mu, rfl, h2⟩
  have HB2 : Hid (Below w.heap.size w w2) := Lib.hid (HB1.out.trans (h2.way.mono HB1.out.size))
  clear h2
  go_wp2_with fail
  refine (Ar.new_yes 65536 _ (by decide) (by decide) Ar.pop_64k).mono ?_
  rintro e w3 ⟨rfl, ha, hb3⟩
  obtain ⟨ga, hga⟩ : ∃ ga, w2.heap.size + 1 = ga := ⟨_, rfl⟩
  rw [hga]
  have HB3 : Hid (Below w.heap.size w w3) := Lib.hid (HB2.out.trans (hb3.mono HB2.out.size))
  clear ha hb3 hga
  have b4 : Below w3.heap.size w3 (w3.alloc (.cells #[.pointer (some ⟨tb, 0, none⟩), .pointer (some ⟨b, 0, none⟩), .pointer (some ⟨ga, 0, none⟩), .pointer none, .pointer none, .pointer none, .pointer none, .pointer none, .pointer none, .pointer none, .pointer none] 88)) := (Below.refl _ w3).alloc (Nat.le_refl _) _
  have HB4 := Lib.hid (HB3.out.trans (b4.mono HB3.out.size))
  clear b4
  go_wp2
  go_ret
  exact ⟨rfl, HB4.out⟩
end Go.Proofs.YtflkoabgkgegjaaGreatDoor
/- Both tables side by side. Condition: both states, and the tables of the text hold what their texts say. -/
namespace Go.Proofs.YtflkoabgkgegjaaGreatDoor
open Go.RowKit Go.Maps

/-- the program's table, and the reference's, hold the same -/
def TDs (W w : World) (pb tb qm fb ga gb b : Nat) (c : Nat → Nat) (xb at_ L : Nat) (rp rt fq g : Nat) (r : Nat → Nat) (tp n : Nat) : Prop := ∃ (l : List Tl) (P : Nat → List Pg) (f : Nat → Nat) (C : Nat) (lf A B : Nat → Nat),
  TS W w pb tb qm fb ga gb b c xb at_ L n l P f C lf A B ∧ RT9 w tp rp lf A B ∧ RP W.heap.size w rp rt fq g r l (SLf P) (ULf P) L C ∧ W.heap.size ≤ tp ∧ 128 + 256 * (leavesL lf 16).length ≤ C
section
variable {W w w' : World} {pb tb qm fb ga gb b : Nat} {c : Nat → Nat} {xb at_ L : Nat} {rp rt fq g : Nat} {r : Nat → Nat} {tp n : Nat}
theorem TDs.below (h : TDs W w pb tb qm fb ga gb b c xb at_ L rp rt fq g r tp n) (hb : Below w.heap.size w w') : TDs W w' pb tb qm fb ga gb b c xb at_ L rp rt fq g r tp n := by
  obtain ⟨l, P, f, C, lf, A, B, h1, h2, h3, h4⟩ := h
  exact ⟨l, P, f, C, lf, A, B, h1.below hb, h2.below hb, h3.below hb, h4⟩
theorem TDs.monon {m : Nat} (h : TDs W w pb tb qm fb ga gb b c xb at_ L rp rt fq g r tp n) (hm : n ≤ m) : TDs W w pb tb qm fb ga gb b c xb at_ L rp rt fq g r tp m := by
  obtain ⟨l, P, f, C, lf, A, B, h1, h2⟩ := h
  exact ⟨l, P, f, C, lf, A, B, h1.monon hm, h2⟩
theorem td_set (h : TDs W w pb tb qm fb ga gb b c xb at_ L rp rt fq g r tp n) (hZ : TabZ W) (hC : TabC W) (hn : n < 1000) (S : Int) (x y : Nat) (hx : x < 18446744073709551616) (hy : y < 18446744073709551616) (X Y : Int) (hX : (x : Int) = X) (hY : (y : Int) = Y) :
    Calls Tryz.prog 6 #[.pointer (some ⟨xb, 0, none⟩), .int .i64 S, .int .u64 X, .int .u64 Y] w fun e w' => ∃ er, e = .returned (.int .i64 er) ∧ KeepA w w' ∧ ∀ w2, Below w'.heap.size w' w2 →
      Calls Tryz.prog 16 #[.pointer (some ⟨tp, 0, none⟩), .int .i64 S, .int .u64 X, .int .u64 Y] w2 fun e w3 => e = .returned (.int .i64 er) ∧ TDs W w3 pb tb qm fb ga gb b c xb at_ L rp rt fq g r tp (n + 1) ∧ KeepA w2 w3 := by
  by_cases hr : S < 0 ∨ 255 < S
  · refine (tset_range S hr X Y w).mono ?_
    rintro e w' ⟨rfl, rfl⟩
    refine ⟨2, rfl, KeepA.refl _, fun w2 hb => (r9set_range S hr X Y w2).mono ?_⟩
    rintro e w3 ⟨rfl, rfl⟩
    exact ⟨rfl, (h.below hb).monon (Nat.le_succ n), KeepA.refl _⟩
  by_cases hx0 : x = 0
  · have e0 : X = 0 := by omega
    subst e0
    refine (tset_zero S (by omega) Y w).mono ?_
    rintro e w' ⟨rfl, rfl⟩
    refine ⟨1, rfl, KeepA.refl _, fun w2 hb => (r9set_zero S (by omega) Y w2).mono ?_⟩
    rintro e w3 ⟨rfl, rfl⟩
    exact ⟨rfl, (h.below hb).monon (Nat.le_succ n), KeepA.refl _⟩
  obtain ⟨s, hs⟩ : ∃ s : Nat, (s : Int) = S := ⟨S.toNat, by omega⟩
  have hs2 : s < 256 := by omega
  obtain ⟨l, P, f, C, lf, A, B, h1, h2, h3, h4, h5⟩ := h
  refine (tset h1 hZ hC hn s x y hs2 hx hy hx0 S X Y hs hX hY).mono ?_
  rintro e w' ⟨er, l', P', f', C', lf', A', B', rfl, hset, h6, k6⟩
  refine ⟨er, rfl, KeepA.of_keep k6, fun w2 hb => (r9set ((h2.keep k6).below hb) ((h3.keep k6).below hb) h4 h1.pl hset h6.pl hs2 hx0 S X Y hs hX hY).mono ?_⟩
  rintro e w3 ⟨rfl, h7, h8, y3, k3⟩
  refine ⟨rfl, ⟨l', _, f', C', lf', A', B', (h6.below hb).ry y3, h7, h8, h4, ?_⟩, k3⟩
  rcases hset with ⟨_, _, _, _, rfl, rfl, _, _⟩ | ⟨hl, v, f1, hg, hc⟩
  · exact h5
  · rcases hc with ⟨hne, rfl, _, _⟩ | ⟨he, xa, _, hxa, _, rfl, _, _⟩
    · cases hg with
      | quota _ => exact h5
      | none _ _ _ => exact h5
      | yes _ _ _ _ _ _ => exact absurd rfl hne
    · have hup := leaves_up (lf := lf) (j := s / 16) (x := xa) (by omega) hl hxa
      have e7 : szC 7 = 256 := rfl
      cases hg with
      | quota _ => cases he
      | none _ _ _ => cases he
      | yes _ _ _ _ _ _ => rw [hup]; omega
theorem td_clear (h : TDs W w pb tb qm fb ga gb b c xb at_ L rp rt fq g r tp n) (hC : TabC W) (S : Int) :
    Calls Tryz.prog 7 #[.pointer (some ⟨xb, 0, none⟩), .int .i64 S] w fun e w' => ∃ er, e = .returned (.int .i64 er) ∧ KeepA w w' ∧ ∀ w2, Below w'.heap.size w' w2 →
      Calls Tryz.prog 17 #[.pointer (some ⟨tp, 0, none⟩), .int .i64 S] w2 fun e w3 => e = .returned (.int .i64 er) ∧ TDs W w3 pb tb qm fb ga gb b c xb at_ L rp rt fq g r tp n ∧ KeepA w2 w3 := by
  by_cases hr : S < 0 ∨ 255 < S
  · refine (tclear_range S hr w).mono ?_
    rintro e w' ⟨rfl, rfl⟩
    refine ⟨2, rfl, KeepA.refl _, fun w2 hb => (r9clear_range S hr w2).mono ?_⟩
    rintro e w3 ⟨rfl, rfl⟩
    exact ⟨rfl, h.below hb, KeepA.refl _⟩
  obtain ⟨s, hs⟩ : ∃ s : Nat, (s : Int) = S := ⟨S.toNat, by omega⟩
  have hs2 : s < 256 := by omega
  obtain ⟨l, P, f, C, lf, A, B, h1, h2, h3, h4, h5⟩ := h
  by_cases ha : A s = 0
  · refine (tclear_none h1 s hs2 ha S hs).mono ?_
    rintro e w' ⟨rfl, rfl⟩
    refine ⟨6, rfl, KeepA.refl _, fun w2 hb => (r9clear_none (h2.below hb) s hs2 ha S hs).mono ?_⟩
    rintro e w3 ⟨rfl, rfl⟩
    exact ⟨rfl, ⟨l, P, f, C, lf, A, B, h1.below hb, h2.below hb, h3.below hb, h4, h5⟩, KeepA.refl _⟩
  have hl : lf (s / 16) ≠ 0 := fun e => ha (by
    have := h1.rel.no (s / 16) (s % 16) (by omega) (by omega) e
    rw [show 16 * (s / 16) + s % 16 = s by omega] at this
    exact this.1)
  have hdn := leaves_down (lf := lf) (j := s / 16) (by omega) hl
  refine (tclear_yes h1 hC s hs2 ha (by omega) S hs).mono ?_
  rintro e w' ⟨rfl, l', P', f', C', lf', A', B', hclr, h6, k6⟩
  refine ⟨0, rfl, KeepA.of_keep k6, fun w2 hb => (r9clear ((h2.keep k6).below hb) ((h3.keep k6).below hb) h4 h1.pl (h1.plf _ (by omega) hl) (by omega) hclr h6.pl hs2 ha S hs).mono ?_⟩
  rintro e w3 ⟨rfl, h7, h8, y3, k3⟩
  refine ⟨rfl, ⟨l', _, f', C', lf', A', B', (h6.below hb).ry y3, h7, h8, h4, ?_⟩, k3⟩
  obtain ⟨_, _, hcase⟩ := hclr
  rcases hcase with ⟨_, _, _, e1, e2⟩ | ⟨_, e1, e2, _⟩
  · rw [e1, e2]; exact h5
  · rw [e1, e2]; omega
end
end Go.Proofs.YtflkoabgkgegjaaGreatDoor
/- Both pools side by side: Get. Condition: both states, and the tables of the text hold what their texts say. -/
namespace Go.Proofs.YtflkoabgkgegjaaGreatDoor
open Go.RowKit Go.Maps
section
variable {W w w' : World} {pb tb qm fb ga gb b : Nat} {c : Nat → Nat} {xb at_ L : Nat} {rp rt fq g : Nat} {r : Nat → Nat} {tp n : Nat}
theorem td_get (h : TDs W w pb tb qm fb ga gb b c xb at_ L rp rt fq g r tp n) (hZ : TabZ W) (hC : TabC W) (hn : n < 1000) (S : Int) :
    Calls Tryz.prog 14 #[.pointer (some ⟨pb, 0, none⟩), .int .i64 0, .int .i64 S] w fun e w' => ∃ x er, e = .returned (.tuple #[.int .i64 x, .int .i64 er]) ∧ KeepA w w' ∧ ∀ w2, Below w'.heap.size w' w2 →
      Calls Tryz.prog 15 #[.pointer (some ⟨rp, 0, none⟩), .int .i64 0, .int .i64 S] w2 fun e w3 => e = .returned (.tuple #[.int .i64 x, .int .i64 er]) ∧ TDs W w3 pb tb qm fb ga gb b c xb at_ L rp rt fq g r tp (n + 1) ∧ KeepA w2 w3 := by
  obtain ⟨l, P, f, C, lf, A, B, h1, h2, h3, h4, h5⟩ := h
  by_cases hk : ∃ k ∈ cls, S = (k : Int)
  · obtain ⟨k, hk, hS⟩ := hk
    refine (pget h1.pl hZ hC hn hk S hS.symm).mono ?_
    rintro e w' ⟨x, er, l', P', f', C', rfl, hg, h6, k6⟩
    refine ⟨x, er, rfl, KeepA.of_keep k6, fun w2 hb => (rget h1.pl hk hg h6 ((h3.keep k6).below hb) S hS.symm).mono ?_⟩
    rintro e w3 ⟨rfl, h8, y3, k3⟩
    refine ⟨rfl, ⟨l', _, f', C', lf, A, B, ((h1.got hk hg h6 k6).below hb).ry y3, ((h2.keep k6).below hb).keepR k3, h8, h4, ?_⟩, KeepA.of_keepR k3⟩
    cases hg with
    | quota _ => exact h5
    | none _ _ _ => exact h5
    | yes _ _ _ _ _ _ => omega
  · have h0 : costI S = 0 := cost_no fun k hk2 e => hk ⟨k, hk2, e⟩
    refine (pget_arg S h0 0 w (hC.below hC.lt h1.way)).mono ?_
    rintro e w' ⟨rfl, rfl⟩
    refine ⟨0, 1, rfl, KeepA.refl _, fun w2 hb => (rget_arg S h0 0 w2).mono ?_⟩
    rintro e w3 ⟨rfl, rfl⟩
    exact ⟨rfl, ⟨l, P, f, C, lf, A, B, (h1.below hb).monon (Nat.le_succ n), h2.below hb, h3.below hb, h4, h5⟩, KeepA.refl _⟩
end
end Go.Proofs.YtflkoabgkgegjaaGreatDoor
/- Both tables side by side: what is read. Condition: both states. -/
namespace Go.Proofs.YtflkoabgkgegjaaGreatDoor
open Go.RowKit Go.Maps
section
variable {W w w' : World} {pb tb qm fb ga gb b : Nat} {c : Nat → Nat} {xb at_ L : Nat} {rp rt fq g : Nat} {r : Nat → Nat} {tp n : Nat}
/-- both Gets -/
theorem td_tget (h : TDs W w pb tb qm fb ga gb b c xb at_ L rp rt fq g r tp n) (S : Int) : ∃ X Y : Int, ∀ w2, Below w.heap.size w w2 →
      Calls Tryz.prog 5 #[.pointer (some ⟨xb, 0, none⟩), .int .i64 S] w2 (fun e w3 => e = .returned (.tuple #[.int .u64 X, .int .u64 Y]) ∧ w3 = w2) ∧
      Calls Tryz.prog 18 #[.pointer (some ⟨tp, 0, none⟩), .int .i64 S] w2 (fun e w3 => e = .returned (.tuple #[.int .u64 X, .int .u64 Y]) ∧ Below w2.heap.size w2 w3) := by
  by_cases hr : S < 0 ∨ 255 < S
  · exact ⟨0, 0, fun w2 _ => ⟨tget_out S hr w2, r9get_out S hr w2⟩⟩
  obtain ⟨l, P, f, C, lf, A, B, h1, h2, h3, h4, h5⟩ := h
  exact ⟨_, _, fun w2 hb => ⟨tget_in (h1.below hb) S.toNat (by omega) S _ _ (by omega) rfl rfl, r9get_in (h2.below hb) S.toNat (by omega) S _ _ (by omega) rfl rfl⟩⟩
theorem td_slots (h : TDs W w pb tb qm fb ga gb b c xb at_ L rp rt fq g r tp n) : ∃ (m : Nat) (Q : List Int), m = Q.length ∧ m ≤ 1073741824 ∧ ∀ w2, Below w.heap.size w w2 →
      Calls Tryz.prog 8 #[.pointer (some ⟨xb, 0, none⟩)] w2 (fun e w3 => ∃ A' k', e = .returned (.slice A' m k') ∧ SlR w3 A' (i64s Q) ∧ Below w2.heap.size w2 w3) ∧
      Calls Tryz.prog 23 #[.pointer (some ⟨tp, 0, none⟩)] w2 (fun e w3 => ∃ A' k', e = .returned (.slice A' m k') ∧ SlR w3 A' (i64s Q) ∧ Below w2.heap.size w2 w3) := by
  obtain ⟨l, P, f, C, lf, A, B, h1, h2, h3, h4, h5⟩ := h
  refine ⟨_, slotsL A 256, rfl, by have := slotsL_length A 256; omega, fun w2 hb => ⟨(tslots (h1.below hb) _ rfl).mono ?_, (r9slots (h2.below hb) _ rfl).mono ?_⟩⟩
  · rintro e w3 ⟨A', k', rfl, ho, hb3⟩
    exact ⟨A', k', rfl, ownsRow_sl ho, hb3⟩
  · rintro e w3 ⟨A', k', rfl, ho, hb3⟩
    exact ⟨A', k', rfl, ownsRow_sl ho, hb3⟩
theorem td_leaves (h : TDs W w pb tb qm fb ga gb b c xb at_ L rp rt fq g r tp n) : ∃ (m : Nat) (Q : List Int), m = Q.length ∧ m ≤ 1073741824 ∧ ∀ w2, Below w.heap.size w w2 →
      Calls Tryz.prog 9 #[.pointer (some ⟨xb, 0, none⟩)] w2 (fun e w3 => ∃ A' k', e = .returned (.slice A' m k') ∧ SlR w3 A' (i64s Q) ∧ Below w2.heap.size w2 w3) ∧
      Calls Tryz.prog 24 #[.pointer (some ⟨tp, 0, none⟩)] w2 (fun e w3 => ∃ A' k', e = .returned (.slice A' m k') ∧ SlR w3 A' (i64s Q) ∧ Below w2.heap.size w2 w3) := by
  obtain ⟨l, P, f, C, lf, A, B, h1, h2, h3, h4, h5⟩ := h
  refine ⟨_, leavesL lf 16, rfl, by have := leavesL_length lf 16; omega, fun w2 hb => ⟨(tleaves (h1.below hb) _ rfl).mono ?_, (r9leaves (h2.below hb) _ rfl).mono ?_⟩⟩
  · rintro e w3 ⟨A', k', rfl, ho, hb3⟩
    exact ⟨A', k', rfl, ownsRow_sl ho, hb3⟩
  · rintro e w3 ⟨A', k', rfl, ho, hb3⟩
    exact ⟨A', k', rfl, ownsRow_sl ho, hb3⟩
theorem td_need (h : TDs W w pb tb qm fb ga gb b c xb at_ L rp rt fq g r tp n) (Q : List Int) (m : Nat) (hm : Q.length = m) (hml : m ≤ 1073741824) (Aq : Option Addr) (cap : Nat) (hA : SlR w Aq (i64s Q)) : ∃ N : Int, ∀ w2, Below w.heap.size w w2 →
      Calls Tryz.prog 10 #[.pointer (some ⟨xb, 0, none⟩), .slice Aq m cap] w2 (fun e w3 => e = .returned (.int .i64 N) ∧ Below w2.heap.size w2 w3) ∧
      Calls Tryz.prog 25 #[.pointer (some ⟨tp, 0, none⟩), .slice Aq m cap] w2 (fun e w3 => e = .returned (.int .i64 N) ∧ Below w2.heap.size w2 w3) := by
  obtain ⟨l, P, f, C, lf, A, B, h1, h2, h3, h4, h5⟩ := h
  exact ⟨_, fun w2 hb => ⟨tneed (h1.below hb) Q m hm hml Aq cap (hA.below hb) _ rfl, r9need (h2.below hb) Q m hm hml Aq cap (hA.below hb) _ rfl⟩⟩
theorem td_use (h : TDs W w pb tb qm fb ga gb b c xb at_ L rp rt fq g r tp n) : ∃ N : Int, ∀ w2, Below w.heap.size w w2 →
      Calls Tryz.prog 20 #[.pointer (some ⟨pb, 0, none⟩)] w2 (fun e w3 => e = .returned (.pointer (some ⟨tb, 0, none⟩)) ∧ w3 = w2) ∧
      Calls Tryz.prog 21 #[.pointer (some ⟨tb, 0, none⟩), .int .i64 0] w2 (fun e w3 => e = .returned (.int .i64 N) ∧ Below w2.heap.size w2 w3) ∧
      w2.cell? ⟨rp, 2, none⟩ = some (.pointer (some ⟨rt, 0, none⟩)) ∧
      Calls Tryz.prog 19 #[.pointer (some ⟨rt, 0, none⟩), .int .i64 0] w2 (fun e w3 => e = .returned (.tuple #[.int .i64 N, .int .i64 0]) ∧ w3 = w2) := by
  obtain ⟨l, P, f, C, lf, A, B, h1, h2, h3, h4, h5⟩ := h
  exact ⟨(C : Int), fun w2 hb => ⟨pquota (h1.below hb).pl, quse_any (h1.below hb).pl.qu (by have := h1.pl.le; omega) _ rfl, (h3.below hb).r2, rquse (h3.below hb).q⟩⟩
end
end Go.Proofs.YtflkoabgkgegjaaGreatDoor
/- The reference's table, as it is made. No condition. -/
namespace Go.Proofs.YtflkoabgkgegjaaGreatDoor
open Go.RowKit Go.Maps

def row9 (rp : Nat) : Array Value := ((Value.pointer (some ⟨rp, 0, none⟩) :: Value.int .i64 0 :: List.replicate 16 (Value.int .i64 0)) ++ List.replicate 512 (Value.int .u64 0)).toArray
theorem built9 (rp : Nat) : (Tryz.prog).built 48 [(0, .pointer (some ⟨rp, 0, none⟩))] = some (row9 rp) := by kernel_rfl
theorem build9 (rp : Nat) (w : World) : (Instr.build 48 #[(0, .pointer (some ⟨rp, 0, none⟩))]).run Tryz.prog w = .ok (.agg (row9 rp)) w := run_build w 48 #[(0, .pointer (some ⟨rp, 0, none⟩))] (row9 rp) (built9 rp)
theorem row9_size (rp : Nat) : (row9 rp).size = 530 := by kernel_rfl
theorem row9_0 (rp : Nat) : (row9 rp)[0]? = some (.pointer (some ⟨rp, 0, none⟩)) := by kernel_rfl
theorem row9_1 (rp : Nat) : (row9 rp)[1]? = some (.int .i64 0) := by kernel_rfl
theorem RT9.made (w : World) (tp rp : Nat) (h : w.heap[tp]? = some (.cells (row9 rp) 48 (0, 0))) : RT9 w tp rp (fun _ => 0) (fun _ => 0) (fun _ => 0) := by
  refine ⟨_, h, row9_size rp, row9_0 rp, row9_1 rp, fun j hj => ?_, fun i hi => ?_, fun i hi => ?_⟩
  · unfold row9
    rw [List.getElem?_toArray, List.getElem?_append_left (by simp only [List.length_cons, List.length_replicate]; omega), show 2 + j = j + 1 + 1 by omega, List.getElem?_cons_succ, List.getElem?_cons_succ, List.getElem?_replicate, if_pos hj]
    rfl
  · unfold row9
    rw [List.getElem?_toArray, List.getElem?_append_right (by simp only [List.length_cons, List.length_replicate]; omega), List.getElem?_replicate, if_pos (by simp only [List.length_cons, List.length_replicate]; omega)]
    rfl
  · unfold row9
    rw [List.getElem?_toArray, List.getElem?_append_right (by simp only [List.length_cons, List.length_replicate]; omega), List.getElem?_replicate, if_pos (by simp only [List.length_cons, List.length_replicate]; omega)]
    rfl
end Go.Proofs.YtflkoabgkgegjaaGreatDoor
/- The walk of alive. Condition: the tables hold what their texts say. -/
namespace Go.Proofs.YtflkoabgkgegjaaGreatDoor
open Go.RowKit Go.Maps

theorem slotsL_nil {A : Nat → Nat} (h : ∀ i, i < 256 → A i = 0) : slotsL A 256 = [] := by
  unfold slotsL
  rw [List.map_eq_nil_iff, List.filter_eq_nil_iff]
  intro i hi
  simp [h i (List.mem_range.1 hi)]
theorem leavesL_nil {lf : Nat → Nat} (h : ∀ j, j < 16 → lf j = 0) : leavesL lf 16 = [] := by
  unfold leavesL
  rw [List.map_eq_nil_iff, List.filter_eq_nil_iff]
  intro i hi
  simp [h i (List.mem_range.1 hi)]
theorem need4 : needN (fun _ => 0) [17, 18, 40, 300] = 2 := by decide
set_option maxRecDepth 100000 in
set_option maxHeartbeats 12800000 in
theorem alive_any (W : World) (hZ : TabZ W) (hC : TabC W) : Calls Tryz.prog 4 #[] W fun e w' => e = .returned (.bool true) ∧ Below W.heap.size W w' := by
  have HZ := Lib.hid hZ
  have HC := Lib.hid hC
  clear hZ hC
  go_enter Tryz.func4, Tryz.ntmps4
  go_wp2_with fail
  refine (pnew 1000 (by omega) 1000 rfl _ HZ.out HC.out).mono ?_
  rintro e w1 ⟨pb, tb, qm, fb, ga, gb, b, c, rfl, h1⟩
  have H1 := Lib.hid h1
  clear h1
  go_wp2_with fail
  refine (pget_first H1.out HZ.out HC.out (by decide)).mono ?_
  rintro e w2 ⟨X, a, l2, P2, hX, ha, rfl, h2, k2, hx2, al2⟩
  have H2 := Lib.hid h2
  have AL2 := Lib.hid al2
  have HXA : Hid (X = (a : Int) ∧ a ≤ 65536 - 128) := Lib.hid ⟨hX, ha⟩
  have HX2 := Lib.hid hx2
  clear h2 k2 al2 hX ha hx2
  go_wp2_with fail
  refine (tat_first a X HXA.out.1 H2.out HC.out HX2.out).mono ?_
  rintro e w3 ⟨xb, rfl, h3, k3⟩
  have H3 := Lib.hid h3
  clear h3 k3
  go_wp2_with fail
  have hb4 : Below w3.heap.size w3 (w3.alloc (.cells #[.int .i64 17, .int .i64 18, .int .i64 40, .int .i64 300] 3)) := (Below.refl _ w3).alloc (Nat.le_refl _) _
  have H4 := Lib.hid (H3.out.below hb4)
  refine (tneed H4.out [17, 18, 40, 300] 4 rfl (by decide) _ 4 (SlR_new w3 #[.int .i64 17, .int .i64 18, .int .i64 40, .int .i64 300] 3) 2 (by rw [need4]; rfl)).mono ?_
  rintro e w5 ⟨rfl, hb5⟩
  have H5 := Lib.hid (H4.out.below hb5)
  clear hb4 hb5
  go_wp2_with fail
  refine (tset H5.out HZ.out HC.out (by decide) 17 5 6 (by decide) (by decide) (by decide) (by decide) 17 5 6 rfl rfl rfl).mono ?_
  rintro e w6 ⟨er, l6, P6, f6, C6, lf6, A6, B6, rfl, hr6, h6, k6⟩
  obtain ⟨al6, hcase⟩ := AL2.out.set H5.out hr6 (by decide) (by decide)
  rcases hcase with ⟨rfl, rfl, rfl, hlf⟩ | ⟨_, _, hbad, _⟩
  rotate_left
  · exact absurd hbad (by decide)
  rcases hlf with ⟨hbad, _⟩ | ⟨_, _, x6, hx6, rfl⟩
  · exact absurd rfl hbad
  have H6 := Lib.hid h6
  have AL6 := Lib.hid al6
  have HX6 := Lib.hid hx6
  clear hr6 h6 k6 al6 hx6
  go_wp2_with fail
  refine (tget_in H6.out 17 (by decide) 17 5 6 rfl rfl rfl).mono ?_
  rintro e w' ⟨rfl, hw⟩
  have hw2 := hw.symm
  clear hw
  subst hw2
  go_wp2_with fail
  refine (parena H6.out.pl).mono ?_
  rintro e w' ⟨rfl, hw⟩
  have hw2 := hw.symm
  clear hw
  subst hw2
  obtain ⟨V, hV⟩ : ∃ V : Int, ((updF (fun _ => 0) (17 / 16) x6 1 : Nat) : Int) = V := ⟨_, rfl⟩
  have hdj := H6.out.dj.root
  have zX : IntKind.i64.wrap (X + 8) = X + 8 := by rw [IntKind.wrap_i64]; have := HXA.out; omega
  have HLD := Lib.hid (load_int w6 ga gb 65536 f6 (a + 8 * 1) (X + 8) V (by have := HXA.out; omega) (by rw [H6.out.rel.root 1 (by decide)]; exact hV) (by omega) (by omega) H6.out.pl.ar)
  have nV : (V != 0) = true := by
    have : V ≠ 0 := fun e => by
      rw [← hV] at e
      have e2 : updF (fun _ => 0) (17 / 16) x6 1 = x6 := updF_same _ _ _
      rw [e2] at e
      exact HX6.out (by omega)
    simp [this]
  clear hV hdj
  go_wp2_with fail
  refine HLD.out.mono ?_
  rintro e w' ⟨rfl, hw⟩
  have hw2 := hw.symm
  clear hw
  subst hw2
  go_wp2_with fail
  refine (tclear_yes H6.out HC.out 17 (by decide) (by decide) (AL6.out.pay H6.out (s := 17) (by decide) (by decide)) 17 rfl).mono ?_
  rintro e w7 ⟨rfl, l7, P7, f7, C7, lf7, A7, B7, hr7, h7, k7⟩
  obtain ⟨al7, e1, e2⟩ := AL6.out.clear H6.out hr7 (by decide) (by decide)
  have hAz : ∀ i, updF (updF (fun _ => 0) 17 5) 17 0 i = 0 := fun i => by
    by_cases e : i = 17
    · rw [e, updF_same]
    · rw [updF_other _ _ e, updF_other _ _ e]
  have hlz : ∀ j, j < 16 → lf7 j = 0 := by
    obtain ⟨_, _, ⟨hn, _⟩ | ⟨_, _, hl7, _⟩⟩ := hr7
    · exact absurd (fun i _ => hAz _) hn
    · intro j hj
      rw [hl7]
      by_cases e : j = 17 / 16
      · rw [e, updF_same]
      · rw [updF_other _ _ e, updF_other _ _ e]
  have hC7 : C7 = 128 := by
    have := al7.cost
    rw [leavesL_nil hlz] at this
    exact this
  subst e1 e2 hC7
  have H7 := Lib.hid h7
  have HAZ := Lib.hid hAz
  have HLZ := Lib.hid hlz
  clear hr7 h7 k7 al7 hAz hlz
  go_wp2_with fail
  refine (tclear_none H7.out 17 (by decide) (HAZ.out 17) 17 rfl).mono ?_
  rintro e w' ⟨rfl, hw⟩
  have hw2 := hw.symm
  clear hw
  subst hw2
  go_wp2_with fail
  refine (tleaves H7.out 0 (by rw [leavesL_nil HLZ.out]; rfl)).mono ?_
  rintro e w8 ⟨A8, k8, rfl, _, hb8⟩
  have H8 := Lib.hid (H7.out.below hb8)
  clear hb8
  go_wp2_with fail
  refine (tslots H8.out 0 (by rw [slotsL_nil (fun i _ => HAZ.out i)]; rfl)).mono ?_
  rintro e w9 ⟨A9, k9, rfl, _, hb9⟩
  have H9 := Lib.hid (H8.out.below hb9)
  clear hb9
  go_wp2_with fail
  refine (pquota H9.out.pl).mono ?_
  rintro e w' ⟨rfl, hw⟩
  have hw2 := hw.symm
  clear hw
  subst hw2
  go_wp2_with fail
  refine (quse_any H9.out.pl.qu (by decide) 128 rfl).mono ?_
  rintro e w10 ⟨rfl, hb10⟩
  have H10 := Lib.hid (H9.out.below hb10)
  clear hb10
  go_wp2_with fail
  refine (tset_range (xb := xb) 256 (.inr (by decide)) 1 1 _).mono ?_
  rintro e w' ⟨rfl, hw⟩
  have hw2 := hw.symm
  clear hw
  subst hw2
  go_wp2_with fail
  refine (tset_zero (xb := xb) 0 (by decide) 1 _).mono ?_
  rintro e w' ⟨rfl, hw⟩
  have hw2 := hw.symm
  clear hw
  subst hw2
  go_wp2_with fail
  refine (tat_no H10.out.pl HC.out 65 (by decide) (fun hc => by
    obtain ⟨y, e1, _, e3, _⟩ := used_place (H10.out.pl.lay.lay 2 two_mem) H10.out.pl.good (cls_facts 2 two_mem).2.2.1 (sz16 two_mem) hc
    omega)).mono ?_
  rintro e w11 ⟨rfl, h11, k11⟩
  have HW := Lib.hid h11.way
  clear h11 k11
  go_wp2
  go_ret
  exact ⟨rfl, HW.out⟩
end Go.Proofs.YtflkoabgkgegjaaGreatDoor
