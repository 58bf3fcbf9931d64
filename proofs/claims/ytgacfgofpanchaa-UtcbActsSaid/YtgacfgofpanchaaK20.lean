/- The reference's blocks in memory; the contracts of its Open and Window. No condition. -/
import Derived.Test.YtgacfgofpanchaaProg
import Derived.Test.YtgacfgofpanchaaL5
import Derived.WalkKit
import Derived.WalkLawsBesides
import Derived.WalkSpells
import Derived.Deep.QuietTactic
import Derived.BigQuiet
import Derived.Deep.RegionHeld3
import Derived.Deep.RegionLaw
import Derived.Outline
import Derived.Lib.LazyBuf
import Derived.Deep.WholeRow
namespace Go.Proofs.Ytgacfgofpanchaa
open Go.RowKit

/-- the reference's two blocks: 64 words -/
def QAt (W : World) (g : Nat) (G : Nat → Nat) : Prop :=
  (∃ cs : Array Value, W.heap[g]? = some (.cells cs 56 (0, 0)) ∧ cs.size = 64) ∧ (∀ i, i < 64 → W.cell? ⟨g, i, none⟩ = some (.int .u64 ((G i : Nat) : Int))) ∧ (∀ i, G i < 18446744073709551616)
theorem QAt.lt {W : World} {g : Nat} {G : Nat → Nat} (h : QAt W g G) : g < W.heap.size := by
  obtain ⟨cs, hc, _⟩ := h.1
  exact blt hc
theorem QAt.below {W W' : World} {g : Nat} {G : Nat → Nat} (h : QAt W g G) (hb : Below W.heap.size W W') : QAt W' g G := by
  obtain ⟨cs, hc, hs⟩ := h.1
  exact ⟨⟨cs, (hb.block g h.lt).trans hc, hs⟩, fun i hi => (hb.cell (p := ⟨g, i, none⟩) h.lt).trans (h.2.1 i hi), h.2.2⟩
theorem QAt.kept {W W' : World} {g g' : Nat} {G : Nat → Nat} (h : QAt W g G) (hg : W.grownBy W' (some g')) (hne : g ≠ g') : QAt W' g G := by
  obtain ⟨cs, hc, hs⟩ := h.1
  exact ⟨⟨cs, (hg.block g h.lt (fun e => hne (by injection e))).trans hc, hs⟩, fun i hi => (grown_cell hg h.lt hne).trans (h.2.1 i hi), h.2.2⟩
theorem QAt.frozen {W : World} {g : Nat} {G : Nat → Nat} (h : QAt W g G) (i : Nat) : W.frozen? ⟨g, i, none⟩ = false := by
  obtain ⟨cs, hc, _⟩ := h.1
  exact frozen_of_row W g i _ _ hc
def setG (G : Nat → Nat) (i v : Nat) (j : Nat) : Nat := if j = i then v else G j
theorem QAt.set {W : World} {g : Nat} {G : Nat → Nat} (h : QAt W g G) (i v : Nat) (hi : i < 64) (hv : v < 18446744073709551616) : QAt (W.setCell ⟨g, i, none⟩ (.int .u64 ((v : Nat) : Int))) g (setG G i v) := by
  obtain ⟨cs, hc, hs⟩ := h.1
  refine ⟨⟨_, heap_setCell_same W g i cs _ _ hc, by simpa using hs⟩, fun j hj => ?_, fun j => ?_⟩
  · unfold setG
    by_cases e : j = i
    · subst e
      rw [if_pos rfl]
      exact World.cell?_setCell_same' W ⟨g, j, none⟩ _ (by rw [h.2.1 j hj]; rfl)
    · rw [if_neg e, World.cell?_setCell_other _ _ _ _ (by intro e2; injection e2 with _ e3; exact e e3.symm)]
      exact h.2.1 j hj
  · unfold setG
    split
    · exact hv
    · exact h.2.2 j
theorem QAt.drew {W : World} {g : Nat} {G : Nat → Nat} (h : QAt W g G) : QAt W.drew g G := h.below (Below.refl _ _).drew
/-- the words of the reference's block that stands at o -/
def vw (G : Nat → Nat) (o : Nat) (i : Nat) : Nat := G (o + i)
def upG (o : Nat) (G : Nat → Nat) (h : Nat → Nat) (j : Nat) : Nat := if o ≤ j ∧ j < o + 32 then h (j - o) else G j
def rOpenG (G : Nat → Nat) (o : Nat) (w : Wnd) : Nat → Nat := if winOk w = true then setG G (o + 2) (w.base.toNat + 256 * w.order.toNat) else G
set_option maxRecDepth 100000 in
set_option maxHeartbeats 1600000 in
theorem ropen_yes (W : World) (g o : Nat) (G : Nat → Nat) (b r : Int) (ok : winOk ⟨b, r⟩ = true) (ho : o + 32 ≤ 64) (h : QAt W g G) :
    Calls Try.prog 26 #[.pointer (some ⟨g, o, none⟩), .agg #[.int .i64 b, .int .i64 r]] W fun e w' => e = .returned (.int .i64 0) ∧ QAt w' g (setG G (o + 2) (b.toNat + 256 * r.toNat)) ∧ W.grownBy w' (some g) := by
  obtain ⟨q1, q2, q3, q4, _⟩ := (winOk_iff _).1 ok
  simp only at q1 q2 q3 q4
  obtain ⟨X, hX⟩ : ∃ X, X = b.toNat + 256 * r.toNat := ⟨_, rfl⟩
  rw [← hX]
  have hor : b + 256 * r = (X : Int) := by omega
  have x1 : (X : Int) ≤ 2047 := by omega
  have s1 : IntKind.i64.wrap (256 * r) = 256 * r := by rw [IntKind.wrap_i64]; omega
  have s2 : IntKind.i64.wrap (b + 256 * r) = b + 256 * r := by rw [IntKind.wrap_i64]; omega
  have s4 : IntKind.i64.wrap (X : Int) = (X : Int) := by rw [IntKind.wrap_i64]; omega
  have s3 : IntKind.u64.wrap (X : Int) = (X : Int) := by rw [IntKind.wrap_u64]; omega
  have HX : Hid (X < 18446744073709551616) := Lib.hid (by omega)
  have HO := Lib.hid ok
  have H1 := Lib.hid (h.below ((Below.refl _ _).alloc (Nat.le_refl _) (.cells #[.int .i64 b, .int .i64 r] 26)))
  have K1 : Hid ((W.alloc (.cells #[.int .i64 b, .int .i64 r] 26)).heap[W.heap.size]? = some (.cells #[.int .i64 b, .int .i64 r] 26 (0, 0))) := Lib.hid (heap_alloc_new W _)
  have G1 : Hid (W.grownBy (W.alloc (.cells #[.int .i64 b, .int .i64 r] 26)) (some g)) := Lib.hid (below_gb ((Below.refl _ _).alloc (Nat.le_refl _) _))
  clear hX ok h
  go_enter Try.func26, Try.ntmps26
  go_wp2_with fail
  refine (may14_u b r true HO.out _).mono ?_
  rintro e w2 ⟨rfl, hb2⟩
  have H2 := H1.out.below hb2
  have K2 := (hb2.block _ (blt K1.out)).trans K1.out
  have G2 : Hid (W.grownBy w2 (some g)) := Lib.hid (gb_trans G1.out (below_gb hb2))
  obtain ⟨c0, c1⟩ := cells2 K2
  have v := H2.2.1 (o + 2) (by omega)
  have hf := H2.frozen (o + 2)
  have M2 : Hid (QAt (w2.setCell ⟨g, o + 2, none⟩ (.int .u64 (X : Int))).drew g (setG G (o + 2) X)) := Lib.hid ((H2.set (o + 2) X (by omega) HX.out).drew)
  have G3 : Hid (W.grownBy (w2.setCell ⟨g, o + 2, none⟩ (.int .u64 (X : Int))).drew (some g)) := Lib.hid (gb_trans (gb_set G2.out _ _) (gb_drew _ _))
  clear hb2 H1 K1 G1 H2 K2
  go_wp2_with fail
  go_region_law (fail)
  all_goals
    clear c0 c1 v hf
    go_wp2
    go_ret
    exact ⟨rfl, M2.out, G3.out⟩
theorem ropen_no (W : World) (g o : Nat) (b r : Int) (ok : winOk ⟨b, r⟩ = false) : Calls Try.prog 26 #[.pointer (some ⟨g, o, none⟩), .agg #[.int .i64 b, .int .i64 r]] W fun e w' => e = .returned (.int .i64 1) ∧ Below W.heap.size W w' := by
  have HO := Lib.hid ok
  clear ok
  go_enter Try.func26, Try.ntmps26
  go_wp2_with fail
  refine (may14_u b r false HO.out _).mono ?_
  rintro e w2 ⟨rfl, hb2⟩
  have Hb : Hid (Below W.heap.size W w2) := Lib.hid (((Below.refl _ _).alloc (Nat.le_refl _) _).trans (hb2.mono (by simp)))
  clear hb2
  go_wp2
  go_ret
  exact ⟨rfl, Hb.out⟩
theorem ropen_u (W : World) (g o : Nat) (G : Nat → Nat) (b r er : Int) (her : openE ⟨b, r⟩ = er) (ho : o + 32 ≤ 64) (h : QAt W g G) :
    Calls Try.prog 26 #[.pointer (some ⟨g, o, none⟩), .agg #[.int .i64 b, .int .i64 r]] W fun e w' => e = .returned (.int .i64 er) ∧ QAt w' g (rOpenG G o ⟨b, r⟩) ∧ W.grownBy w' (some g) := by
  subst her
  unfold openE rOpenG
  cases ok : winOk ⟨b, r⟩
  · exact (ropen_no W g o b r ok).mono fun e w' q => ⟨by rw [q.1, if_neg (by decide)], by rw [if_neg (by decide)]; exact h.below q.2, below_gb q.2⟩
  · exact (ropen_yes W g o G b r ok ho h).mono fun e w' q => ⟨by rw [q.1, if_pos rfl], by rw [if_pos rfl]; exact q.2.1, q.2.2⟩
theorem two_boxes2 {W w3 : World} {A B : Array Value} {T U : TypeId} (hb : Below (((W.alloc (.cells A T)).alloc (.cells B U)).drew).heap.size (((W.alloc (.cells A T)).alloc (.cells B U)).drew) w3) :
    w3.heap[W.heap.size]? = some (.cells A T (0, 0)) ∧ w3.heap[W.heap.size + 1]? = some (.cells B U (0, 0)) ∧ Below W.heap.size W w3 := by
  have e2 : (((W.alloc (.cells A T)).alloc (.cells B U)).drew).heap.size = W.heap.size + 2 := by simp
  rw [e2] at hb
  have h1 : Below W.heap.size W (((W.alloc (.cells A T)).alloc (.cells B U)).drew) := (((Below.refl _ _).alloc (Nat.le_refl _) _).alloc (by simp) _).drew
  refine ⟨(hb.block _ (by omega)).trans ?_, (hb.block _ (by omega)).trans ?_, h1.trans (hb.mono (by omega))⟩
  · exact (Below.heap_alloc (W.alloc (.cells A T)) (.cells B U) W.heap.size (by simp)).trans (heap_alloc_new W _)
  · have := heap_alloc_new (W.alloc (.cells A T)) (.cells B U)
    rw [World.size_alloc] at this
    exact this
set_option maxRecDepth 100000 in
set_option maxHeartbeats 1600000 in
theorem rwindow_any (W : World) (g o : Nat) (G : Nat → Nat) (v : Wnd) (hv : winX (vw G o 2) = v) (ho : o + 32 ≤ 64) (h : QAt W g G) : Calls Try.prog 29 #[.pointer (some ⟨g, o, none⟩)] W fun e w' => e = .returned (.agg #[.int .i64 v.base, .int .i64 v.order]) ∧ Below W.heap.size W w' := by
  obtain ⟨x, hx⟩ : ∃ x, G (o + 2) = x := ⟨_, rfl⟩
  have hv' : winX x = v := by rw [← hx]; exact hv
  have hlt : x < 18446744073709551616 := by rw [← hx]; exact h.2.2 _
  have c := h.2.1 (o + 2) (by omega)
  rw [hx] at c
  have hg : g < W.heap.size := h.lt
  have cz : (W.alloc (.cells #[.int .i64 0, .int .i64 0] 26)).cell? ⟨g, o + 2, none⟩ = some (.int .u64 (x : Int)) := (World.cell?_alloc_lt _ _ ⟨g, o + 2, none⟩ hg).trans c
  have cn := World.new_ne _ _ cz
  have K0 : Hid ((W.alloc (.cells #[.int .i64 0, .int .i64 0] 26)).heap[W.heap.size]? = some (.cells #[.int .i64 0, .int .i64 0] 26 (0, 0))) := Lib.hid (heap_alloc_new W _)
  have HV := Lib.hid hv'
  clear h hv hv' hx c
  by_cases h4 : x < 4096
  · have e1 := Lib.hid (winX_small x h4)
    have t1 : decide ((4096 : Int) ≤ (x : Int)) = false := decide_eq_false (by omega)
    obtain ⟨lo, hlo⟩ : ∃ lo, lo = x % 256 := ⟨_, rfl⟩
    obtain ⟨hi, hhi⟩ : ∃ hi, hi = x / 256 := ⟨_, rfl⟩
    have f0 : (x : Int) % 256 = (lo : Int) := by omega
    have f1 : (x : Int) / 256 = (hi : Int) := by omega
    have f4 : (x : Int).tmod 256 = (lo : Int) := by rw [Int.tmod_eq_emod_of_nonneg (by omega)]; exact f0
    have l1 : (lo : Int) < 256 := by omega
    have l2 : (hi : Int) < 16 := by omega
    have f2 : IntKind.i64.wrap (lo : Int) = (lo : Int) := by rw [IntKind.wrap_i64]; omega
    have f5 : IntKind.u64.wrap (hi : Int) = (hi : Int) := by rw [IntKind.wrap_u64]; omega
    have f3 : IntKind.i64.wrap (hi : Int) = (hi : Int) := by rw [IntKind.wrap_i64]; omega
    have EL : Hid (winAt x = ⟨(lo : Int), (hi : Int)⟩) := Lib.hid (by rw [hlo, hhi]; rfl)
    clear hlo hhi h4 hlt
    cases hw : alignedB (lo : Int) (hi : Int)
    all_goals
      have HW := Lib.hid hw
      clear hw
      go_enter Try.func29, Try.ntmps29
      go_wp2_with fail
      go_region_held3 (fun w' => w'.cell? ⟨g, o + 2, none⟩ = some (.int .u64 (x : Int))) (go_keep) (fail)
    · go_wp2_with fail
      refine (may14_u _ _ false HW.out _).mono ?_
      rintro e w3 ⟨rfl, hb3⟩
      obtain ⟨k0, k1, hb⟩ := two_boxes2 hb3
      have K0 := Lib.hid k0
      have Hb := Lib.hid hb
      have hz : v = zeroWd := by rw [← HV.out, e1.out, EL.out, if_neg (by unfold winOk; rw [HW.out]; decide)]
      subst hz
      clear k0 k1 hb hb3 cz cn hg
      go_wp2_with (refine wpList_store_whole 26 rfl (.tmp 2) (.tmp 29) rfl W.heap.size #[.int .i64 0, .int .i64 0] rfl rfl 26 _ K0.out info_wnd rfl (one_two _ _) ?_; intro w6 hk6 hg6)
      exact ret_cell Try.results29 rfl hk6 Try.underlying26 rfl info_wnd rfl ⟨rfl, Hb.out.trans (grownBy_below hg6 (Nat.le_refl _) Hb.out.size)⟩
    · go_wp2_with fail
      refine (may14_u _ _ true HW.out _).mono ?_
      rintro e w3 ⟨rfl, hb3⟩
      obtain ⟨k0, k1, hb⟩ := two_boxes2 hb3
      have K0 := Lib.hid k0
      have Hb := Lib.hid hb
      obtain ⟨q0, q1⟩ := cells2 k1
      have hz : v = ⟨(lo : Int), (hi : Int)⟩ := by rw [← HV.out, e1.out, EL.out, if_pos (show winOk ⟨(lo : Int), (hi : Int)⟩ = true from HW.out)]
      subst hz
      clear k0 k1 hb hb3 cz cn hg
      go_wp2_with (refine wpList_store_whole 26 rfl (.tmp 2) (.tmp 30) rfl W.heap.size #[.int .i64 (lo : Int), .int .i64 (hi : Int)] rfl rfl 26 _ K0.out info_wnd rfl (one_two _ _) ?_; intro w6 hk6 hg6)
      exact ret_cell Try.results29 rfl hk6 Try.underlying26 rfl info_wnd rfl ⟨rfl, Hb.out.trans (grownBy_below hg6 (Nat.le_refl _) Hb.out.size)⟩
  · have t1 : decide ((4096 : Int) ≤ (x : Int)) = true := decide_eq_true (by omega)
    have hz : v = zeroWd := by rw [← HV.out]; exact winX_great x h4
    subst hz
    clear h4 hlt
    go_enter Try.func29, Try.ntmps29
    go_wp2
    exact bodyPost_ret (v := .agg #[.int .i64 0, .int .i64 0]) (by simp [results, Try.results29, go_sem]) rfl ⟨rfl, by
      repeat (first | (with_reducible exact (Below.refl _ _).alloc (Nat.le_refl _) _) | (with_reducible refine setAt ?_ (Nat.le_refl _) _))⟩
end Go.Proofs.Ytgacfgofpanchaa
