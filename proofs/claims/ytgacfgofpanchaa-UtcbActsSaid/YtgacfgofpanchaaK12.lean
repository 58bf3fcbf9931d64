/- The contract of Window. No condition. -/
import Derived.Test.YtgacfgofpanchaaProg
import Derived.Test.YtgacfgofpanchaaK11
import Derived.WalkKit
import Derived.WalkLawsBesides
import Derived.WalkSpells
import Derived.Deep.QuietTactic
import Derived.BigQuiet
import Derived.Deep.RegionHeld3
import Derived.Deep.RegionLaw
import Derived.Outline
import Derived.Lib.LazyBuf
import Derived.Deep.WholeRow
namespace Go.Proofs.Ytgacfgofpanchaa
open Go.RowKit

theorem ret_cell {P : Program} {fn : Func} {R : Ending → World → Prop} {a : Act} {w : World} {p : Tmp} {ty t : TypeId} {g : Nat} {cs : Array Value} {fr : Nat × Nat} {d : TypeDesc} (h : fn.results = #[.cell p ty])
    (hp : a.tmps.getD p undef = .pointer (some ⟨g, 0, none⟩)) (hg : w.heap[g]? = some (.cells cs t fr)) (hu : P.underlying ty = some d) (hd : (match d with | .struct _ | .array _ _ => true | _ => false) = true)
    (hi : (P.info? ty).map (·.size) = some cs.size) (hdf : a.defers = []) (hR : R (.returned (.agg cs)) w) : bodyPost P fn R .ret a w :=
  bodyPost_ret (results_cell_row h a.tmps w g t cs fr d hp hg hu hd hi) hdf hR
theorem info_wnd : (Try.prog.info? 26).map (·.size) = some 2 := by kernel_rfl
theorem one_two (a b : Int) : (#[.int .i64 a, .int .i64 b] : Array Value).all (·.oneCell') = true := by kernel_rfl
theorem two_boxes {W w3 : World} {A B : Array Value} {T U : TypeId} {n : Nat} (hb : Below (((W.alloc (.cells A T)).drewN n).alloc (.cells B U)).heap.size (((W.alloc (.cells A T)).drewN n).alloc (.cells B U)) w3) :
    w3.heap[W.heap.size]? = some (.cells A T (0, 0)) ∧ w3.heap[W.heap.size + 1]? = some (.cells B U (0, 0)) ∧ Below W.heap.size W w3 := by
  have h0 : Below W.heap.size W ((W.alloc (.cells A T)).drewN n) := below_drewN ((Below.refl _ _).alloc (Nat.le_refl _) _) n
  have e : ((W.alloc (.cells A T)).drewN n).heap.size = W.heap.size + 1 := by simp
  have h1 : Below W.heap.size W (((W.alloc (.cells A T)).drewN n).alloc (.cells B U)) := h0.alloc (by rw [e]; omega) _
  have e2 : (((W.alloc (.cells A T)).drewN n).alloc (.cells B U)).heap.size = W.heap.size + 2 := by rw [World.size_alloc, e]
  rw [e2] at hb
  refine ⟨(hb.block _ (by omega)).trans ?_, (hb.block _ (by omega)).trans ?_, h1.trans (hb.mono (by omega))⟩
  · exact (Below.heap_alloc _ _ _ (by rw [e]; omega)).trans (heap_alloc_new W _)
  · have := heap_alloc_new ((W.alloc (.cells A T)).drewN n) (.cells B U)
    rw [e] at this
    exact this
theorem cells2 {w : World} {g : Nat} {u v : Value} {t : TypeId} (h : w.heap[g]? = some (.cells #[u, v] t (0, 0))) : w.cell? ⟨g, 0, none⟩ = some u ∧ w.cell? ⟨g, 1, none⟩ = some v :=
  ⟨cell_of_row w g 0 _ _ _ h, cell_of_row w g 1 _ _ _ h⟩
theorem winX_small (x : Nat) (h : x < 4096) : winX x = if winOk (winAt x) = true then winAt x else zeroWd := by
  unfold winX
  by_cases h2 : winOk (winAt x) = true
  · rw [if_pos ⟨h, h2⟩, if_pos h2]
  · rw [if_neg (fun q => h2 q.2), if_neg h2]
theorem winX_great (x : Nat) (h : ¬ x < 4096) : winX x = zeroWd := by
  unfold winX
  rw [if_neg (fun q => h q.1)]
set_option maxRecDepth 100000 in
theorem window_nil (W : World) : Calls Try.prog 21 #[.pointer none] W fun e w' => e = .returned (.agg #[.int .i64 0, .int .i64 0]) ∧ Below W.heap.size W w' := by
  go_enter Try.func21, Try.ntmps21
  go_wp2
  exact bodyPost_ret (v := .agg #[.int .i64 0, .int .i64 0]) (by simp [results, Try.results21, go_sem]) rfl ⟨rfl, (Below.refl _ _).alloc (Nat.le_refl _) _⟩
set_option maxRecDepth 100000 in
set_option maxHeartbeats 800000 in
theorem window_any (W : World) (bp ga gb N a : Nat) (f : Nat → Nat) (v : Wnd) (hv : winX (wd f a 2) = v) (h : PB W bp ga gb N a f) : Calls Try.prog 21 #[.pointer (some ⟨bp, 0, none⟩)] W fun e w' => e = .returned (.agg #[.int .i64 v.base, .int .i64 v.order]) ∧ Below W.heap.size W w' := by
  have H1 := Lib.hid (h.alloc (.cells #[.int .i64 0, .int .i64 0] 26))
  have hx := h.wd_lt 2
  obtain ⟨x, hxe⟩ : ∃ x, wd f a 2 = x := ⟨_, rfl⟩
  rw [hxe] at hv hx
  have HX := Lib.hid hxe
  have f0 := item_f0 x hx
  have f1 := item_f1 x hx
  simp only [itemOf] at f0 f1
  clear h hxe
  by_cases h4 : x < 4096
  · have t1 : ((x : Int) / 4096 != 0) = false := by simp; omega
    have e1 : x / 256 % 16 = x / 256 := by omega
    rw [e1] at f1
    rw [winX_small x h4] at hv
    have hx' : (x : Int) < 4096 := by omega
    cases hw : winOk (winAt x)
    · rw [hw, if_neg (by decide)] at hv
      subst hv
      have HW : Hid (alignedB ((x % 256 : Nat) : Int) ((x / 256 : Nat) : Int) = false) := Lib.hid hw
      clear hw hx e1 h4
      go_enter Try.func21, Try.ntmps21
      go_wp2_with fail
      refine (pload 2 2 (by omega) rfl x HX.out H1.out).mono ?_
      rintro e w2 ⟨rfl, n, rfl⟩
      go_wp2_with fail
      refine (pmay_any _ _ false HW.out _).mono ?_
      rintro e w3 ⟨rfl, hb3⟩
      obtain ⟨k0, k1, hb⟩ := two_boxes hb3
      have K0 := Lib.hid k0
      have Hb := Lib.hid hb
      obtain ⟨q0, q1⟩ := cells2 k1
      clear k0 k1 hb hb3
      go_wp2_with (refine wpList_store_whole 26 rfl (.tmp 2) (.tmp 26) rfl W.heap.size #[.int .i64 0, .int .i64 0] rfl rfl 26 _ K0.out info_wnd rfl (one_two _ _) ?_; intro w6 hk6 hg6)
      exact ret_cell Try.results21 rfl hk6 Try.underlying26 rfl info_wnd rfl ⟨rfl, Hb.out.trans (grownBy_below hg6 (Nat.le_refl _) Hb.out.size)⟩
    · rw [hw, if_pos rfl] at hv
      subst hv
      have HW : Hid (alignedB ((x % 256 : Nat) : Int) ((x / 256 : Nat) : Int) = true) := Lib.hid hw
      clear hw hx e1 h4
      go_enter Try.func21, Try.ntmps21
      go_wp2_with fail
      refine (pload 2 2 (by omega) rfl x HX.out H1.out).mono ?_
      rintro e w2 ⟨rfl, n, rfl⟩
      go_wp2_with fail
      refine (pmay_any _ _ true HW.out _).mono ?_
      rintro e w3 ⟨rfl, hb3⟩
      obtain ⟨k0, k1, hb⟩ := two_boxes hb3
      have K0 := Lib.hid k0
      have Hb := Lib.hid hb
      obtain ⟨q0, q1⟩ := cells2 k1
      clear k0 k1 hb hb3
      go_wp2_with (refine wpList_store_whole 26 rfl (.tmp 2) (.tmp 27) rfl W.heap.size #[.int .i64 ((x % 256 : Nat) : Int), .int .i64 ((x / 256 : Nat) : Int)] rfl rfl 26 _ K0.out info_wnd rfl (one_two _ _) ?_; intro w6 hk6 hg6)
      exact ret_cell Try.results21 rfl hk6 Try.underlying26 rfl info_wnd rfl ⟨rfl, Hb.out.trans (grownBy_below hg6 (Nat.le_refl _) Hb.out.size)⟩
  · have t1 : ((x : Int) / 4096 != 0) = true := by simp; omega
    rw [winX_great x h4] at hv
    subst hv
    have hx' : (4096 : Int) ≤ (x : Int) := by omega
    clear hx h4 f1
    go_enter Try.func21, Try.ntmps21
    go_wp2_with fail
    refine (pload 2 2 (by omega) rfl x HX.out H1.out).mono ?_
    rintro e w2 ⟨rfl, n, rfl⟩
    go_wp2_with fail
    refine bodyPost_ret (v := .agg #[.int .i64 0, .int .i64 0]) (by simp [results, Try.results21, go_sem]) rfl ⟨rfl, ?_⟩
    refine Below.alloc ?_ (by simp) _
    repeat (first | (with_reducible exact below_drewN ((Below.refl _ _).alloc (Nat.le_refl _) _) n) | (with_reducible refine Below.setCell ?_ (by simp) _))
end Go.Proofs.Ytgacfgofpanchaa
