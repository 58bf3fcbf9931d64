/- The reference's table: Set. Condition: its row is read, and the pool's. And what follows from it. -/
import Derived.Test.YtflkoabgkgegjaaGreatDoorY39
/- The reference's table: Set. Condition: its row is read, and the pool's. -/
namespace Go.Proofs.YtflkoabgkgegjaaGreatDoor
open Go.RowKit Go.Maps

/-- the act at hand stands -/
def KeepA (w w' : World) : Prop := ∀ (x : Nat) (cs : Array Value), w.heap[x]? = some (.cells cs 50 (0, 0)) → w'.heap[x]? = some (.cells cs 50 (0, 0))
theorem KeepA.refl (w : World) : KeepA w w := fun _ _ h => h
theorem KeepA.trans {a b c : World} (h1 : KeepA a b) (h2 : KeepA b c) : KeepA a c := fun x cs h => h2 x cs (h1 x cs h)
theorem KeepA.of_below {w w' : World} (h : Below w.heap.size w w') : KeepA w w' := fun x cs hx => (h.block x (blt hx)).trans hx
theorem KeepA.of_keep {w w' : World} (h : KeepP w w') : KeepA w w' := fun x cs hx => h x cs _ hx ⟨⟨by decide, by decide, by decide⟩, by decide, by decide⟩
theorem KeepA.of_keepR {w w' : World} (h : KeepR w w') : KeepA w w' := fun x cs hx => h x cs _ hx (by decide) (by decide) (by decide)
theorem RB.turn9 {w w' : World} {g top r : Nat} {ds : Array Value} {A1 A2 : Option Addr} {c1 c2 : Nat} {LF LU : List (Nat × Nat)} (h : RB w g top A1 c1 LF A2 c2 LU) (hg : w.grownBy w' (some r)) (hd : w.heap[r]? = some (.cells ds 48 (0, 0))) : RB w' g top A1 c1 LF A2 c2 LU :=
  ⟨h.row.turn hg hd (show 138 ≠ 48 by decide), h.f.turn hg hd (by rw [tyOf_bCells]; decide), h.u.turn hg hd (by rw [tyOf_bCells]; decide), h.cf, h.cu⟩
theorem RCF.turn9 {w w' : World} {r : Nat → Nat} {g : Nat} {lr : List Tl} {SL UL : Nat → List Int} {fq : Nat} {ds : Array Value} (h : RCF w r g lr SL UL) (hg : w.grownBy w' (some fq)) (hd : w.heap[fq]? = some (.cells ds 48 (0, 0))) : RCF w' r g lr SL UL := by
  obtain ⟨A1, c1, A2, c2, h1, h2⟩ := h
  refine ⟨A1, c1, A2, c2, fun k hk => ?_, h2⟩
  obtain ⟨S1, d1, S2, d2, h3⟩ := h1 k hk
  exact ⟨S1, d1, S2, d2, h3.rb.turn9 hg hd, (hg.block _ (blt h3.row) (fun e => two_types h3.row hd (by decide) (by injection e))).trans h3.row, h3.sl.turn hg hd (by decide), h3.ul.turn hg hd (by decide), h3.cs, h3.cu⟩
theorem RP.turn9 {B : Nat} {w w' : World} {rp rt fq g : Nat} {r : Nat → Nat} {lr : List Tl} {SL UL : Nat → List Int} {L C tp : Nat} {ds : Array Value} (h : RP B w rp rt fq g r lr SL UL L C) (hg : w.grownBy w' (some tp)) (hd : w.heap[tp]? = some (.cells ds 48 (0, 0))) : RP B w' rp rt fq g r lr SL UL L C := by
  have st : ∀ {y : Nat} {cs : Array Value} {u : TypeId}, w.heap[y]? = some (.cells cs u (0, 0)) → u ≠ 48 → w'.heap[y]? = some (.cells cs u (0, 0)) := fun hx ht => (hg.block _ (blt hx) (fun e2 => two_types hx hd ht (by injection e2))).trans hx
  exact ⟨st h.row (by decide), ⟨st h.q.tree (by decide), st h.q.fac (by decide)⟩, h.f.turn9 hg hd, h.new⟩
theorem KeepA.of_tab {w w' : World} {tp : Nat} {ds : Array Value} (hg : w.grownBy w' (some tp)) (hd : w.heap[tp]? = some (.cells ds 48 (0, 0))) : KeepA w w' := fun x cs hx => (hg.block x (blt hx) (fun e => two_types hx hd (by decide) (by injection e))).trans hx
/-- a cell of the reference's table is set: what else stands -/
theorem RT9.turned {B : Nat} {w : World} {rp rt fq g : Nat} {r : Nat → Nat} {lr : List Tl} {SL UL : Nat → List Int} {L C tp : Nat} {lf A B' : Nat → Nat} (h9 : RT9 w tp rp lf A B') (htp : B ≤ tp) (h : RP B w rp rt fq g r lr SL UL L C) (i : Nat) (v : Value) : RP B (w.setCell ⟨tp, i, none⟩ v) rp rt fq g r lr SL UL L C ∧ RY B w (w.setCell ⟨tp, i, none⟩ v) ∧ KeepA w (w.setCell ⟨tp, i, none⟩ v) := by
  obtain ⟨cs, hc⟩ := h9.obj
  have hg : w.grownBy (w.setCell ⟨tp, i, none⟩ v) (some tp) := gb_set (World.grownBy.refl _ _) _ _
  exact ⟨h.turn9 hg hc, .turn (.refl _) ⟨_, _, hc, by unfold FreeT; decide⟩ htp hg, KeepA.of_tab hg hc⟩
section
variable {w w' : World} {tp rp : Nat} {lf A B : Nat → Nat}
set_option maxRecDepth 100000 in
theorem r9set_range (S : Int) (hS : S < 0 ∨ 255 < S) (x y : Int) (w : World) : Calls Tryz.prog 16 #[.pointer (some ⟨tp, 0, none⟩), .int .i64 S, .int .u64 x, .int .u64 y] w fun e w' => e = .returned (.int .i64 2) ∧ w' = w := by
  by_cases q : S < 0
  · have t1 : decide (S < 0) = true := decide_eq_true q
    clear hS q
    go_enter Tryz.func16, Tryz.ntmps16
    go_wp2
    go_ret
    exact ⟨rfl, rfl⟩
  · have t1 : decide (S < 0) = false := decide_eq_false q
    have t2 : decide (255 < S) = true := decide_eq_true (by omega)
    clear hS q
    go_enter Tryz.func16, Tryz.ntmps16
    go_wp2
    go_ret
    exact ⟨rfl, rfl⟩
set_option maxRecDepth 100000 in
theorem r9set_zero (S : Int) (hS : 0 ≤ S ∧ S < 256) (y : Int) (w : World) : Calls Tryz.prog 16 #[.pointer (some ⟨tp, 0, none⟩), .int .i64 S, .int .u64 0, .int .u64 y] w fun e w' => e = .returned (.int .i64 1) ∧ w' = w := by
  have t1 : decide (S < 0) = false := decide_eq_false (by omega)
  have t2 : decide (255 < S) = false := decide_eq_false (by omega)
  clear hS
  go_enter Tryz.func16, Tryz.ntmps16
  go_wp2
  go_ret
  exact ⟨rfl, rfl⟩
end
section
variable {W w0 w1 w w' : World} {pb tb qm fb ga gb b : Nat} {c : Nat → Nat} {xb at_ L n n' : Nat} {l : List Tl} {P : Nat → List Pg} {f : Nat → Nat} {C : Nat} {lf A B : Nat → Nat} {Bd rp rt fq g tp : Nat} {r : Nat → Nat}
/-- both words of an entry are set -/
theorem RT9.put {L C : Nat} {SL UL : Nat → List Int} (h : RT9 w tp rp lf A B) (htp : Bd ≤ tp) (hp : RP Bd w rp rt fq g r l SL UL L C) (s x y : Nat) (hs : s < 256) (N : Nat) (hN : N = s) (X Y : Int) (hX : (x : Int) = X) (hY : (y : Int) = Y) :
    RT9 ((w.setCell ⟨tp, 18 + N, none⟩ (.int .u64 X)).setCell ⟨tp, 274 + N, none⟩ (.int .u64 Y)) tp rp lf (updF A s x) (updF B s y) ∧ RP Bd ((w.setCell ⟨tp, 18 + N, none⟩ (.int .u64 X)).setCell ⟨tp, 274 + N, none⟩ (.int .u64 Y)) rp rt fq g r l SL UL L C ∧
    RY Bd w ((w.setCell ⟨tp, 18 + N, none⟩ (.int .u64 X)).setCell ⟨tp, 274 + N, none⟩ (.int .u64 Y)) ∧ KeepA w ((w.setCell ⟨tp, 18 + N, none⟩ (.int .u64 X)).setCell ⟨tp, 274 + N, none⟩ (.int .u64 Y)) := by
  subst hN
  have h1 := h.setA hs x X hX
  obtain ⟨p1, y1, k1⟩ := h.turned htp hp (18 + N) (.int .u64 X)
  obtain ⟨p2, y2, k2⟩ := h1.turned htp p1 (274 + N) (.int .u64 Y)
  exact ⟨h1.setB hs y Y hY, p2, y1.trans y2, k1.trans k2⟩
set_option maxRecDepth 100000 in
set_option maxHeartbeats 3200000 in
theorem r9set_there {L C : Nat} {SL UL : Nat → List Int} (h : RT9 w tp rp lf A B) (htp : Bd ≤ tp) (hp : RP Bd w rp rt fq g r l SL UL L C) (s x y : Nat) (hs : s < 256) (hl : lf (s / 16) ≠ 0) (hx0 : x ≠ 0) (S X Y : Int) (hS : (s : Int) = S) (hX : (x : Int) = X) (hY : (y : Int) = Y) :
    Calls Tryz.prog 16 #[.pointer (some ⟨tp, 0, none⟩), .int .i64 S, .int .u64 X, .int .u64 Y] w fun e w' => e = .returned (.int .i64 0) ∧ RT9 w' tp rp lf (updF A s x) (updF B s y) ∧ RP Bd w' rp rt fq g r l SL UL L C ∧ RY Bd w w' ∧ KeepA w w' := by
  have t1 : decide (S < 0) = false := decide_eq_false (by omega)
  have t2 : decide (255 < S) = false := decide_eq_false (by omega)
  have t3 : (X == 0) = false := by simp; omega
  obtain ⟨D, hD⟩ : ∃ D : Int, ((s / 16 : Nat) : Int) = D := ⟨_, rfl⟩
  obtain ⟨V, hV⟩ : ∃ V : Int, ((lf (s / 16) : Nat) : Int) = V := ⟨_, rfl⟩
  have t4 : (V == 0) = false := by simp; omega
  have z1 : S.tdiv 16 = D := by rw [← hS, Int.tdiv_eq_ediv_of_nonneg (by omega)]; omega
  have z2 : IntKind.i64.wrap D = D := by rw [IntKind.wrap_i64]; omega
  have z3 : wrap64 D = D := by unfold wrap64; omega
  have d0 : (0 : Int) ≤ D := by omega
  have d1 : D < 16 := by omega
  have s0 : (0 : Int) ≤ S := by omega
  have s1 : S < 256 := by omega
  have en : D.toNat = s / 16 := by omega
  have c1 : w.cell? ⟨tp, 2 + D.toNat, none⟩ = some (.int .i64 V) := by rw [en, h.leaf (by omega), hV]
  have hN : S.toNat = s := by omega
  have c2 : w.cell? ⟨tp, 18 + S.toNat, none⟩ = some (.int .u64 (A s : Int)) := by rw [hN, h.a hs]
  have f2 : w.frozen? ⟨tp, 18 + S.toNat, none⟩ = false := h.froz _
  have h2 := h.setA hs x X hX
  rw [← hN] at h2
  have c3 : (w.setCell ⟨tp, 18 + S.toNat, none⟩ (.int .u64 X)).cell? ⟨tp, 274 + S.toNat, none⟩ = some (.int .u64 (B s : Int)) := by rw [h2.b (by omega), hN]
  have f3 : (w.setCell ⟨tp, 18 + S.toNat, none⟩ (.int .u64 X)).frozen? ⟨tp, 274 + S.toNat, none⟩ = false := h2.froz _
  have HP := Lib.hid (h.put htp hp s x y hs S.toNat hN X Y hX hY)
  clear h htp hp hs hl hx0 hS hX hY hD hV en hN h2
  go_enter Tryz.func16, Tryz.ntmps16
  go_wp2
  go_ret
  exact ⟨rfl, HP.out⟩
set_option maxRecDepth 100000 in
set_option maxHeartbeats 6400000 in
theorem r9set_new {s x y : Nat} {v er : Int} {l' : List Tl} {P' : List Pg} {f1 f2 : Nat → Nat} {C' : Nat} {lf' A' B' : Nat → Nat} (h : RT9 w tp rp lf A B) (hp : RP Bd w rp rt fq g r l (SLf P) (ULf P) L C) (htp : Bd ≤ tp) (h0 : PL W w0 pb tb qm fb ga gb b c L n l P f C) (hl : lf (s / 16) = 0)
    (hg : GetS L 7 l (P 7) f C v er l' P' f1 C') (hc : (er ≠ 0 ∧ lf' = lf ∧ A' = A ∧ B' = B) ∨ (er = 0 ∧ ∃ xa : Nat, v = (xa : Int) ∧ xa ≠ 0 ∧ (∀ y, y ∈ usedC (mC 7) (szC 7) P' ↔ y ∈ usedC (mC 7) (szC 7) (P 7) ∨ y = v) ∧ lf' = updF lf (s / 16) xa ∧ A' = updF A s x ∧ B' = updF B s y))
    (h1 : PL W w1 pb tb qm fb ga gb b c L n' l' (updF P 7 P') f2 C') (hs : s < 256) (hx0 : x ≠ 0) (S X Y : Int) (hS : (s : Int) = S) (hX : (x : Int) = X) (hY : (y : Int) = Y) :
    Calls Tryz.prog 16 #[.pointer (some ⟨tp, 0, none⟩), .int .i64 S, .int .u64 X, .int .u64 Y] w fun e w' => e = .returned (.int .i64 er) ∧ RT9 w' tp rp lf' A' B' ∧ RP Bd w' rp rt fq g r l' (SLf (updF P 7 P')) (ULf (updF P 7 P')) L C' ∧ RY Bd w w' ∧ KeepA w w' := by
  have t1 : decide (S < 0) = false := decide_eq_false (by omega)
  have t2 : decide (255 < S) = false := decide_eq_false (by omega)
  have t3 : (X == 0) = false := by simp; omega
  obtain ⟨D, hD⟩ : ∃ D : Int, ((s / 16 : Nat) : Int) = D := ⟨_, rfl⟩
  have z1 : S.tdiv 16 = D := by rw [← hS, Int.tdiv_eq_ediv_of_nonneg (by omega)]; omega
  have z2 : IntKind.i64.wrap D = D := by rw [IntKind.wrap_i64]; omega
  have z3 : wrap64 D = D := by unfold wrap64; omega
  have d0 : (0 : Int) ≤ D := by omega
  have d1 : D < 16 := by omega
  have s0 : (0 : Int) ≤ S := by omega
  have s1 : S < 256 := by omega
  have en : D.toNat = s / 16 := by omega
  have c1 : w.cell? ⟨tp, 2 + D.toNat, none⟩ = some (.int .i64 0) := by rw [en, h.leaf (by omega), hl]; rfl
  have p0 := h.p0
  have p1 := h.p1
  have hN : S.toNat = s := by omega
  have HS : Hid (s < 256 ∧ D.toNat = s / 16 ∧ S.toNat = s ∧ (x : Int) = X ∧ (y : Int) = Y) := Lib.hid ⟨hs, en, hN, hX, hY⟩
  have H := Lib.hid h
  have HP := Lib.hid hp
  have H0 := Lib.hid h0
  have H1 := Lib.hid h1
  have HG := Lib.hid hg
  have HC := Lib.hid hc
  have HTP := Lib.hid htp
  clear h hp htp h0 h1 hg hc hl hs hx0 hS hX hY hD en hN
  go_enter Tryz.func16, Tryz.ntmps16
  go_wp2_with fail
  go_region_law (first | (go_simp; go_at_call 15; (with_reducible refine (rget H0.out seven_mem HG.out H1.out (HP.out.below (Below.refl _ _).drew) 7 rfl).mono ?_); rintro e w9 ⟨rfl, hp9, y9, k9⟩))
  all_goals
    have hr9 := (H.out.below (Below.refl _ _).drew).keepR k9
    have HR9 := Lib.hid hr9
    have HP9 := Lib.hid hp9
    have Y9 := Lib.hid ((RY.more (.refl _) (Below.refl w.heap.size w).drew).trans y9)
    have K9 := Lib.hid ((KeepA.of_below (Below.refl w.heap.size w).drew).trans (KeepA.of_keepR k9))
    clear hr9 hp9 y9 k9 p0 p1 c1
    rcases HC.out with ⟨q, e1, e2, e3⟩ | ⟨q, xa, e0, _, _, e1, e2, e3⟩
    · have t5 : (er != 0) = true := by simp [q]
      have HE : Hid (lf' = lf ∧ A' = A ∧ B' = B) := Lib.hid ⟨e1, e2, e3⟩
      clear q e1 e2 e3
      go_wp2
      go_ret
      rw [HE.out.1, HE.out.2.1, HE.out.2.2]
      exact ⟨rfl, HR9.out, HP9.out, Y9.out, K9.out⟩
    · have c2 : w9.cell? ⟨tp, 2 + D.toNat, none⟩ = some (.int .i64 ((lf (s / 16) : Nat) : Int)) := by rw [HS.out.2.1, HR9.out.leaf (by have := HS.out; omega)]
      have f2 : w9.frozen? ⟨tp, 2 + D.toNat, none⟩ = false := HR9.out.froz _
      have h3 := HR9.out.setL (j := D.toNat) (by have := HS.out; omega) xa v e0.symm
      obtain ⟨p3, y3, k3⟩ := HR9.out.turned HTP.out HP9.out (2 + D.toNat) (.int .i64 v)
      have H3 := Lib.hid h3
      have P3 := Lib.hid p3
      have Y3 := Lib.hid (Y9.out.trans y3)
      have K3 := Lib.hid (K9.out.trans k3)
      have c4 : (w9.setCell ⟨tp, 2 + D.toNat, none⟩ (.int .i64 v)).cell? ⟨tp, 18 + S.toNat, none⟩ = some (.int .u64 (A S.toNat : Int)) := h3.a (by have := HS.out; omega)
      have f4 : (w9.setCell ⟨tp, 2 + D.toNat, none⟩ (.int .i64 v)).frozen? ⟨tp, 18 + S.toNat, none⟩ = false := h3.froz _
      have h4 := h3.setA (j := S.toNat) (by have := HS.out; omega) x X HS.out.2.2.2.1
      have c5 : ((w9.setCell ⟨tp, 2 + D.toNat, none⟩ (.int .i64 v)).setCell ⟨tp, 18 + S.toNat, none⟩ (.int .u64 X)).cell? ⟨tp, 274 + S.toNat, none⟩ = some (.int .u64 (B S.toNat : Int)) := h4.b (by have := HS.out; omega)
      have f5 : ((w9.setCell ⟨tp, 2 + D.toNat, none⟩ (.int .i64 v)).setCell ⟨tp, 18 + S.toNat, none⟩ (.int .u64 X)).frozen? ⟨tp, 274 + S.toNat, none⟩ = false := h4.froz _
      have HPT := Lib.hid (h3.put HTP.out p3 s x y HS.out.1 S.toNat HS.out.2.2.1 X Y HS.out.2.2.2.1 HS.out.2.2.2.2)
      have HE : Hid (er = 0 ∧ lf' = updF lf D.toNat xa ∧ A' = updF A s x ∧ B' = updF B s y) := Lib.hid ⟨q, by rw [HS.out.2.1]; exact e1, e2, e3⟩
      have t5 : (er != 0) = false := by simp [q]
      clear q e0 e1 e2 e3 h3 h4 p3 y3 k3
      go_wp2
      go_ret
      rw [HE.out.1, HE.out.2.1, HE.out.2.2.1, HE.out.2.2.2]
      exact ⟨rfl, HPT.out.1, HPT.out.2.1, Y3.out.trans HPT.out.2.2.1, K3.out.trans HPT.out.2.2.2⟩
theorem r9set {s x y : Nat} {er : Int} {l' : List Tl} {P' : List Pg} {f2 : Nat → Nat} {C' : Nat} {lf' A' B' : Nat → Nat} (h : RT9 w tp rp lf A B) (hp : RP Bd w rp rt fq g r l (SLf P) (ULf P) L C) (htp : Bd ≤ tp) (h0 : PL W w0 pb tb qm fb ga gb b c L n l P f C) (hr : SetR L l (P 7) f C lf A B s x y er l' P' C' lf' A' B')
    (h1 : PL W w1 pb tb qm fb ga gb b c L n' l' (updF P 7 P') f2 C') (hs : s < 256) (hx0 : x ≠ 0) (S X Y : Int) (hS : (s : Int) = S) (hX : (x : Int) = X) (hY : (y : Int) = Y) :
    Calls Tryz.prog 16 #[.pointer (some ⟨tp, 0, none⟩), .int .i64 S, .int .u64 X, .int .u64 Y] w fun e w' => e = .returned (.int .i64 er) ∧ RT9 w' tp rp lf' A' B' ∧ RP Bd w' rp rt fq g r l' (SLf (updF P 7 P')) (ULf (updF P 7 P')) L C' ∧ RY Bd w w' ∧ KeepA w w' := by
  rcases hr with ⟨hl, rfl, rfl, rfl, rfl, rfl, rfl, rfl⟩ | ⟨hl, v, f1, hg, hc⟩
  · rw [updF_eta]
    exact r9set_there h htp hp s x y hs hl hx0 S X Y hS hX hY
  · exact r9set_new h hp htp h0 hl hg hc h1 hs hx0 S X Y hS hX hY
end
end Go.Proofs.YtflkoabgkgegjaaGreatDoor
/- The reference's table: Clear. Condition: its row is read, and the pool's. -/
namespace Go.Proofs.YtflkoabgkgegjaaGreatDoor
open Go.RowKit Go.Maps
section
variable {w w' : World} {tp rp : Nat} {lf A B : Nat → Nat}
set_option maxRecDepth 100000 in
theorem r9clear_range (S : Int) (hS : S < 0 ∨ 255 < S) (w : World) : Calls Tryz.prog 17 #[.pointer (some ⟨tp, 0, none⟩), .int .i64 S] w fun e w' => e = .returned (.int .i64 2) ∧ w' = w := by
  by_cases q : S < 0
  · have t1 : decide (S < 0) = true := decide_eq_true q
    clear hS q
    go_enter Tryz.func17, Tryz.ntmps17
    go_wp2
    go_ret
    exact ⟨rfl, rfl⟩
  · have t1 : decide (S < 0) = false := decide_eq_false q
    have t2 : decide (255 < S) = true := decide_eq_true (by omega)
    clear hS q
    go_enter Tryz.func17, Tryz.ntmps17
    go_wp2
    go_ret
    exact ⟨rfl, rfl⟩
set_option maxRecDepth 100000 in
theorem r9clear_none (h : RT9 w tp rp lf A B) (s : Nat) (hs : s < 256) (ha : A s = 0) (S : Int) (hS : (s : Int) = S) : Calls Tryz.prog 17 #[.pointer (some ⟨tp, 0, none⟩), .int .i64 S] w fun e w' => e = .returned (.int .i64 6) ∧ w' = w := by
  have t1 : decide (S < 0) = false := decide_eq_false (by omega)
  have t2 : decide (255 < S) = false := decide_eq_false (by omega)
  have s0 : (0 : Int) ≤ S := by omega
  have s1 : S < 256 := by omega
  have c1 : w.cell? ⟨tp, 18 + S.toNat, none⟩ = some (.int .u64 0) := by rw [show S.toNat = s by omega, h.a hs, ha]; rfl
  clear h hs ha hS
  go_enter Tryz.func17, Tryz.ntmps17
  go_wp2
  go_ret
  exact ⟨rfl, rfl⟩
end
section
variable {W w0 w1 w w' : World} {pb tb qm fb ga gb b : Nat} {c : Nat → Nat} {xb at_ L n n' : Nat} {l : List Tl} {P : Nat → List Pg} {f : Nat → Nat} {C : Nat} {lf A B : Nat → Nat} {Bd rp rt fq g tp : Nat} {r : Nat → Nat}
set_option maxRecDepth 100000 in
set_option maxHeartbeats 6400000 in
theorem r9clear {s : Nat} {l' : List Tl} {P' : List Pg} {f2 : Nat → Nat} {C' : Nat} {lf' A' B' : Nat → Nat} (h : RT9 w tp rp lf A B) (hp : RP Bd w rp rt fq g r l (SLf P) (ULf P) L C) (htp : Bd ≤ tp) (h0 : PL W w0 pb tb qm fb ga gb b c L n l P f C) (hX : ((lf (s / 16) : Nat) : Int) ∈ usedC (mC 7) (szC 7) (P 7)) (hq : 256 ≤ C) (hr : ClearR l (P 7) C lf A B s l' P' C' lf' A' B')
    (h1 : PL W w1 pb tb qm fb ga gb b c L n' l' (updF P 7 P') f2 C') (hs : s < 256) (ha : A s ≠ 0) (S : Int) (hS : (s : Int) = S) :
    Calls Tryz.prog 17 #[.pointer (some ⟨tp, 0, none⟩), .int .i64 S] w fun e w' => e = .returned (.int .i64 0) ∧ RT9 w' tp rp lf' A' B' ∧ RP Bd w' rp rt fq g r l' (SLf (updF P 7 P')) (ULf (updF P 7 P')) L C' ∧ RY Bd w w' ∧ KeepA w w' := by
  obtain ⟨eA, eB, hr⟩ := hr
  have t1 : decide (S < 0) = false := decide_eq_false (by omega)
  have t2 : decide (255 < S) = false := decide_eq_false (by omega)
  obtain ⟨X, hXX⟩ : ∃ X : Int, ((A s : Nat) : Int) = X := ⟨_, rfl⟩
  have t3 : (X == 0) = false := by simp; omega
  obtain ⟨D, hD⟩ : ∃ D : Int, ((s / 16 : Nat) : Int) = D := ⟨_, rfl⟩
  have z1 : S.tdiv 16 = D := by rw [← hS, Int.tdiv_eq_ediv_of_nonneg (by omega)]; omega
  have z2 : IntKind.i64.wrap D = D := by rw [IntKind.wrap_i64]; omega
  have z3 : wrap64 D = D := by unfold wrap64; omega
  obtain ⟨E, hE⟩ : ∃ E : Int, 16 * D = E := ⟨_, rfl⟩
  have z4 : IntKind.i64.wrap (16 * D) = E := by rw [IntKind.wrap_i64]; omega
  have z5 : IntKind.i64.wrap (E + 16) = E + 16 := by rw [IntKind.wrap_i64]; omega
  have d0 : (0 : Int) ≤ D := by omega
  have d1 : D < 16 := by omega
  have s0 : (0 : Int) ≤ S := by omega
  have s1 : S < 256 := by omega
  have hN : S.toNat = s := by omega
  have c1 : w.cell? ⟨tp, 18 + S.toNat, none⟩ = some (.int .u64 X) := by rw [hN, h.a hs, hXX]
  have f1 : w.frozen? ⟨tp, 18 + S.toNat, none⟩ = false := h.froz _
  have h2 := h.setA hs 0 0 rfl
  rw [← hN] at h2
  have c3 : (w.setCell ⟨tp, 18 + S.toNat, none⟩ (.int .u64 0)).cell? ⟨tp, 274 + S.toNat, none⟩ = some (.int .u64 (B s : Int)) := by rw [h2.b (by omega), hN]
  have f3 : (w.setCell ⟨tp, 18 + S.toNat, none⟩ (.int .u64 0)).frozen? ⟨tp, 274 + S.toNat, none⟩ = false := h2.froz _
  obtain ⟨p2, q2, y2, k2⟩ := h.put htp hp s 0 0 hs S.toNat hN 0 0 rfl rfl
  rw [← eA, ← eB] at p2
  have HS : Hid ((s : Int) = S ∧ s < 256 ∧ D.toNat = s / 16 ∧ ((s / 16 : Nat) : Int) = D ∧ 16 * D = E) := Lib.hid ⟨hS, hs, by omega, hD, hE⟩
  have H2 := Lib.hid p2
  have P2 := Lib.hid q2
  have Y2 := Lib.hid y2
  have K2 := Lib.hid k2
  have H0 := Lib.hid h0
  have H1 := Lib.hid h1
  have HTP := Lib.hid htp
  have HX := Lib.hid hX
  have HQ : Hid (szC 7 ≤ C) := Lib.hid (by have e : szC 7 = 256 := rfl; omega)
  rw [← eA] at hr
  have HR := Lib.hid hr
  have HEA := Lib.hid eA
  clear h hp htp h0 h1 hX hq hr hs ha hS hXX hD hE hN h2 p2 q2 y2 k2 eA eB
  go_enter Tryz.func17, Tryz.ntmps17
  go_wp2_with fail
  generalize hw2 : (w.setCell ⟨tp, 18 + S.toNat, none⟩ (.int .u64 0)).setCell ⟨tp, 274 + S.toNat, none⟩ (.int .u64 0) = w2 at H2 P2 Y2 K2 ⊢
  clear hw2 c1 f1 c3 f3
  go_loopw [6] (fun v6 wr => wr = w2 ∧ ∃ i : Nat, i ≤ 16 ∧ v6 = .int .i64 (E + (i : Int)) ∧ ∀ j, j < i → A' (16 * (s / 16) + j) = 0) (fun v6 _ => 16 - (intOf v6 - E).toNat)
  case atStart => exact ⟨rfl, 0, Nat.zero_le _, by rw [show E + ((0 : Nat) : Int) = E by omega], fun j hj => absurd hj (Nat.not_lt_zero _)⟩
  case round =>
    obtain ⟨rfl, i, hi, rfl, hz⟩ := hrel
    have HZ := Lib.hid hz
    by_cases q : i < 16
    · have j1 : decide (E + (i : Int) < E + 16) = true := decide_eq_true (by omega)
      obtain ⟨I, hI⟩ : ∃ I : Int, E + (i : Int) = I := ⟨_, rfl⟩
      rw [hI] at j1 ⊢
      have hs5 := HS.out
      have n0 : (0 : Int) ≤ I := by omega
      have n1 : I < 256 := by omega
      have en : I.toNat = 16 * (s / 16) + i := by omega
      have zk : IntKind.i64.wrap (I + 1) = I + 1 := by rw [IntKind.wrap_i64]; omega
      obtain ⟨Y, hY⟩ : ∃ Y : Int, ((A' (16 * (s / 16) + i) : Nat) : Int) = Y := ⟨_, rfl⟩
      have c1 : wr.cell? ⟨tp, 18 + I.toNat, none⟩ = some (.int .u64 Y) := by rw [en, H2.out.a (by omega), hY]
      have HI : Hid (E + (i : Int) = I ∧ i < 16) := Lib.hid ⟨hI, q⟩
      by_cases q0 : Y = 0
      · have t4 : (Y != 0) = false := by simp [q0]
        have HZ2 : Hid (∀ j, j < i + 1 → A' (16 * (s / 16) + j) = 0) := Lib.hid (fun j hj => by
          by_cases e : j = i
          · subst e; omega
          · exact HZ.out j (by omega))
        clear q hz hi hI en hY q0 hs5
        go_wp2
        go_roundw
        case rel => exact ⟨by first | rfl | trivial, i + 1, HI.out.2, by have := HI.out; congr 1; omega, HZ2.out⟩
        case measure => have := HI.out; (try simp [intOf]) <;> omega
      · have t4 : (Y != 0) = true := by simp [q0]
        have hne : ¬ (∀ j, j < 16 → A' (16 * (s / 16) + j) = 0) := fun hc => q0 (by rw [← hY, hc i q]; rfl)
        rcases HR.out with ⟨_, rfl, rfl, rfl, rfl⟩ | ⟨hc, _⟩
        · clear q hz hi hI en hY q0 hs5 hne
          go_wp2
          go_ret
          refine ⟨rfl, H2.out, ?_, Y2.out, K2.out⟩
          rw [updF_eta]
          exact P2.out
        · exact absurd hc hne
    · have j1 : decide (E + (i : Int) < E + 16) = false := decide_eq_false (by omega)
      have e16 : i = 16 := by omega
      subst e16
      rcases HR.out with ⟨hc, _⟩ | ⟨_, eC, eL, hu, hcc⟩
      · exact absurd hz hc
      · have HU := Lib.hid hu
        have HCC := Lib.hid hcc
        have HEC : Hid (C' = C - szC 7) := Lib.hid eC
        have HEL := Lib.hid eL
        have p0 := H2.out.p0
        have p1 := H2.out.p1
        obtain ⟨V, hV⟩ : ∃ V : Int, ((lf (s / 16) : Nat) : Int) = V := ⟨_, rfl⟩
        have c1 : wr.cell? ⟨tp, 2 + D.toNat, none⟩ = some (.int .i64 V) := by rw [HS.out.2.2.1, H2.out.leaf (by have := HS.out; omega), hV]
        have HV := Lib.hid hV
        clear hu hcc eC eL hz hi q hV
        go_wp2_with fail
        go_region_law (first | (go_simp; go_at_call 55; (with_reducible refine (rput H0.out seven_mem (by rw [← HV.out]; exact HX.out) HQ.out HEC.out H1.out (by rw [← HV.out]; exact HU.out) HCC.out (P2.out.below (Below.refl _ _).drew) 7 rfl).mono ?_); rintro e w9 ⟨rfl, hp9, y9, k9⟩))
        all_goals
          have hr9 := (H2.out.below (Below.refl _ _).drew).keepR k9
          have c2 : w9.cell? ⟨tp, 2 + D.toNat, none⟩ = some (.int .i64 ((lf (s / 16) : Nat) : Int)) := by rw [HS.out.2.2.1, hr9.leaf (by have := HS.out; omega)]
          have f2 : w9.frozen? ⟨tp, 2 + D.toNat, none⟩ = false := hr9.froz _
          have h3 := hr9.setL (j := D.toNat) (by have := HS.out; omega) 0 0 rfl
          obtain ⟨p3, y3, k3⟩ := hr9.turned HTP.out hp9 (2 + D.toNat) (.int .i64 0)
          have H3 : Hid (RT9 (w9.setCell ⟨tp, 2 + D.toNat, none⟩ (.int .i64 0)) tp rp lf' A' B') := Lib.hid (by rw [HEL.out, ← HS.out.2.2.1]; exact h3)
          have P3 := Lib.hid p3
          have Y3 := Lib.hid (((Y2.out.trans (.more (.refl _) (Below.refl wr.heap.size wr).drew)).trans y9).trans y3)
          have K3 := Lib.hid (((K2.out.trans (KeepA.of_below (Below.refl wr.heap.size wr).drew)).trans (KeepA.of_keepR k9)).trans k3)
          clear hr9 hp9 y9 k9 h3 p3 y3 k3 p0 p1 c1
          go_wp2
          go_ret
          exact ⟨rfl, H3.out, P3.out, Y3.out, K3.out⟩
end
end Go.Proofs.YtflkoabgkgegjaaGreatDoor
/- The table stands where something is got from its pool. No condition. -/
namespace Go.Proofs.YtflkoabgkgegjaaGreatDoor
open Go.RowKit Go.Maps

theorem TRel.filled {f : Nat → Nat} {at_ : Nat} {lf A B : Nat → Nat} (h : TRel f at_ lf A B) (a m : Nat) (hr : at_ + 128 ≤ a ∨ a + m ≤ at_) (hl : ∀ j, j < 16 → lf j ≠ 0 → lf j + 256 ≤ a ∨ a + m ≤ lf j) : TRel (Ar.fillF f a m 0) at_ lf A B := by
  refine ⟨fillF_lt h.lt _ _, fun j hj => ?_, fun j i hj hi hn => ?_, h.no⟩
  · rw [wd_fill_out (by omega)]
    exact h.root j hj
  · have := hl j hj hn
    rw [wd_fill_out (by omega), wd_fill_out (by omega)]
    exact h.ent j i hj hi hn
section
variable {W w w' : World} {pb tb qm fb ga gb b : Nat} {c : Nat → Nat} {xb at_ L n n' : Nat} {l : List Tl} {P : Nat → List Pg} {f : Nat → Nat} {C : Nat} {lf A B : Nat → Nat}
theorem TS.got {k : Nat} {x er : Int} {l' : List Tl} {P' : List Pg} {f' : Nat → Nat} {C' : Nat} (h : TS W w pb tb qm fb ga gb b c xb at_ L n l P f C lf A B) (hk : k ∈ cls) (hg : GetS L k l (P k) f C x er l' P' f' C') (h9 : PL W w' pb tb qm fb ga gb b c L n' l' (updF P k P') f' C') (hkp : KeepP w w') :
    TS W w' pb tb qm fb ga gb b c xb at_ L n' l' (updF P k P') f' C' lf A B := by
  have hrow := hkp _ _ _ h.row tab_off
  cases hg with
  | quota _ =>
    rw [updF_eta] at h9 ⊢
    exact ⟨h9, hrow, h.rel, h.pat, h.plf, h.inj, h.ab⟩
  | none _ _ _ =>
    rw [updF_eta] at h9 ⊢
    exact ⟨h9, hrow, h.rel, h.pat, h.plf, h.inj, h.ab⟩
  | yes h2 a ha l' P' hts =>
    have hcf := cls_facts k hk
    rcases hts.used (h.pl.lay.lay k hk) (h.pl.rise hk) (h.pl.wf hk) hcf.2.2.1 (by omega) hcf.2.2.2.2.2.2.1 with ⟨e, _⟩ | ⟨_, hno, hiff⟩
    · cases e
    have up : ∀ j, ∀ y, y ∈ usedC (mC j) (szC j) (P j) → y ∈ usedC (mC j) (szC j) (updF P k P' j) := fun j y hy => by
      by_cases e : j = k
      · subst e
        rw [updF_same]
        exact (hiff y).2 (.inl hy)
      · rw [updF_other _ _ e]
        exact hy
    have hx : (a : Int) ∈ usedC (mC k) (szC k) (updF P k P' k) := by
      rw [updF_same]
      exact (hiff _).2 (.inr rfl)
    have hri : ∀ j ∈ cls, RisesQ (updF P k P' j) := fun j hj => h9.rise hj
    have ap : ∀ (j y : Nat), j ∈ cls → (y : Int) ∈ usedC (mC j) (szC j) (P j) → y + szC j ≤ a ∨ a + szC k ≤ y := fun j y hj hy =>
      places_apart h9.lay hri hj hk (up j _ hy) hx (by
        by_cases e : j = k
        · subst e
          exact .inr fun e2 => hno (by rw [← e2]; exact hy)
        · exact .inl e)
    exact ⟨h9, hrow, h.rel.filled a (szC k) (ap 2 at_ two_mem h.pat) (fun j hj hn => ap 7 (lf j) seven_mem (h.plf j hj hn)), up 2 _ h.pat, fun j hj hn => up 7 _ (h.plf j hj hn), h.inj, h.ab⟩
end
end Go.Proofs.YtflkoabgkgegjaaGreatDoor
