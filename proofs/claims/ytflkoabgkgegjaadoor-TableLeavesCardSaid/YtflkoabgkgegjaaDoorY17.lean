/- The iterator over used places. Condition: the cache's state. -/
import Derived.RangeFuncNested
import Derived.RangeFuncBound
import Derived.RangeFuncCalls
import Derived.RangeFuncLeaves
import Derived.Shelf.Abstract
import Derived.WalkKit
import Derived.OwnWalkIn
import Derived.TacticsInMore
import Derived.LoopNIn
import Derived.LoopIn
import Derived.Test.YtflkoabgkgegjaaDoorY16
/- The iterator over used places. Condition: the cache's state. -/
namespace Go.Proofs.YtflkoabgkgegjaaDoor
open Go.RowKit Go.Maps
attribute [local go_sem] Oper.semAt_some

/-- the used places of a slab below a number -/
def usedB (size : Nat) (p : Pg) (f : Nat) : List Int := ((List.range f).filter fun i => bitW p.ws i).map fun i => ((1024 * p.q + 64 + i * size : Nat) : Int)
/-- where used places begin -/
def usedC (M size : Nat) (P : List Pg) : List Int := P.flatMap fun p => usedB size p M
theorem usedB_zero (size : Nat) (p : Pg) : usedB size p 0 = [] := rfl
theorem usedB_skip {size : Nat} {p : Pg} {f : Nat} : ∀ {d : Nat}, (∀ j, f ≤ j → j < f + d → bitW p.ws j = false) → usedB size p (f + d) = usedB size p f
  | 0, _ => rfl
  | d + 1, h => by
    have ih := usedB_skip (size := size) (d := d) (fun j h1 h2 => h j h1 (by omega))
    rw [← ih]
    unfold usedB
    rw [← Nat.add_assoc, List.range_succ, List.filter_append, List.map_append]
    have : bitW p.ws (f + d) = false := h (f + d) (by omega) (by omega)
    simp [this]
theorem usedB_add {size : Nat} {p : Pg} {i : Nat} (h : bitW p.ws i = true) : usedB size p (i + 1) = usedB size p i ++ [((1024 * p.q + 64 + i * size : Nat) : Int)] := by
  unfold usedB
  rw [List.range_succ, List.filter_append, List.map_append]
  simp [h]
/-- what a round of a loop over used places keeps -/
def KpU (n₀ : Nat) (X Y : World) : Prop := Below n₀ X Y ∧ ∀ (g : Nat) (cs : Array Value) (t : TypeId), X.heap[g]? = some (.cells cs t (0, 0)) → t ≠ 3 → t ≠ 38 → Y.heap[g]? = some (.cells cs t (0, 0))
def measU (M : Nat) (r : Int) : Nat := if r < 0 then 0 else M + 1 - r.toNat
theorem grown_of_below {X Y : World} (h : Below X.heap.size X Y) : X.grownBy Y none := ⟨h.os, h.tape, h.output, h.size, fun p hp _ => h.block p hp⟩
variable {W w w' : World} {K : List (Nat × Obj)} {c b size M top : Nat} {gm gw : Nat → Nat} {mu n : Nat} {l : List Tl} {A : Option Addr} {cap : Nat} {P : List Pg}
theorem first_lit0 (on : Bool) (W : World) (gm gw n : Nat) (ws : List Nat) (f : Nat) (F : Int) (hF : F = (f : Int)) (hf : f ≤ 2000000000) (h : MapAt W gm gw n ws) (hT : TabZ W) :
    Calls Tryd.prog 49 #[.pointer (some ⟨gm, 0, none⟩), .bool on, .int .i64 F] W fun e w' => ∃ r, e = .returned (.int .i64 r) ∧ FirstS on n ws f r ∧ w' = W := by
  subst hF
  exact first_any on W gm gw n ws f hf h hT
theorem usedC_take (M size : Nat) (P : List Pg) (k : Nat) (hk : k < P.length) : usedC M size (P.take (k + 1)) = usedC M size (P.take k) ++ usedB size P[k] M := by
  unfold usedC
  rw [List.take_add_one, List.getElem?_eq_getElem hk, List.flatMap_append]
  simp only [Option.toList, List.flatMap_cons, List.flatMap_nil, List.append_nil]
theorem usedB_length (size : Nat) (p : Pg) (f : Nat) : (usedB size p f).length ≤ f := by
  unfold usedB
  rw [List.length_map]
  exact Nat.le_trans (List.length_filter_le _ _) (by simp)
theorem usedB_mono (size : Nat) (p : Pg) {f g : Nat} (h : f ≤ g) : (usedB size p f).length ≤ (usedB size p g).length := by
  obtain ⟨d, rfl⟩ := Nat.exists_eq_add_of_le h
  unfold usedB
  rw [List.length_map, List.length_map, List.range_add, List.filter_append, List.length_append]
  omega
theorem usedC_short {M size : Nat} {P : List Pg} {k f : Nat} (hk : k < P.length) (hf : f < M) (hb : bitW P[k].ws f = true) : (usedC M size (P.take k) ++ usedB size P[k] f).length < (usedC M size P).length := by
  have e : usedC M size P = usedC M size (P.take k) ++ usedB size P[k] M ++ usedC M size (P.drop (k + 1)) := by
    rw [← usedC_take M size P k hk]
    unfold usedC
    rw [← List.flatMap_append, List.take_append_drop]
  have h1 := usedB_mono size P[k] (show f + 1 ≤ M by omega)
  rw [usedB_add hb, List.length_append] at h1
  rw [e, List.length_append, List.length_append, List.length_append]
  simp only [List.length_cons, List.length_nil] at h1
  omega
set_option maxRecDepth 100000 in
set_option maxHeartbeats 4000000 in
theorem places1_in (nn : Nat) (hnn : 1 ≤ nn) (h : SGx W K w c b size M top gm gw mu n l A cap P) (hT : TabZ W) (hl : P.length ≤ 1048576) (hs : size ≤ 512) (hM : M ≤ 60) (hq : ∀ x ∈ P, x.q < 1048576) (l0 Bn : Nat) (J Jx : List Int → World → Prop) (W1 : World) (hw : Below w.heap.size w W1) (hJ : AbidesFrom W1.heap.size J)
    (hY : ∀ pre x X, J pre X → pre.length < (usedC M size P).length → YieldAt Fence.wide (nn - 1) Tryd.prog l0 #[.int .i64 x] X fun e Y => (e = .returned (.bool true) ∧ J (pre ++ [x]) Y ∧ KpU w.heap.size X Y) ∨ (e = .returned (.bool false) ∧ Jx (pre ++ [x]) Y))
    (hBn : W1.heap[Bn]? = some (.cells #[.pointer (some ⟨c, 0, none⟩)] 59 (0, 0))) (h0 : J [] W1) :
    CallsIn Fence.wide nn Tryd.prog 75 #[.func (.yield l0) #[] #[], .pointer (some ⟨Bn, 0, none⟩)] W1 fun e Y => (∃ v, e = .returned v) ∧ ((∃ ys, ys = usedC M size P ∧ J ys Y) ∨ ∃ pre, True ∧ Jx pre Y) := by
  have H := Lib.hid h
  have HT := Lib.hid hT
  have HQ := Lib.hid hq
  have HJ := Lib.hid hJ
  have HW1 := Lib.hid hw
  have HS : Hid (P.length ≤ 1048576 ∧ size ≤ 512 ∧ M ≤ 60) := Lib.hid ⟨hl, hs, hM⟩
  have b0 := cell_of_row _ _ 0 _ _ _ hBn
  have c2 := (hw.cell (p := ⟨c, 2, none⟩) h.clt).trans h.c2
  obtain ⟨m, hm⟩ : ∃ m, P.length = m := ⟨_, rfl⟩
  rw [hm] at c2
  have HN := Lib.hid hm
  clear h hT hq hJ hl hs hM hm
  refine callsIn_of_wp Tryd.func75 rfl trivial ?_ rfl
  simp only [Tryd.ntmps75, List.size_toArray, List.length_cons, List.length_nil, Nat.reduceAdd, Nat.reduceSub, Array.replicate_succ, Array.replicate_zero, List.push_toArray, List.append_toArray, List.nil_append, List.cons_append]
  gi_wp2_with fail
  gi_loopw [13] (fun x wr => ∃ k : Nat, k ≤ m ∧ x = .int .i64 (k : Int) ∧ J (usedC M size (P.take k)) wr ∧ Below w.heap.size w wr ∧ wr.heap[Bn]? = some (.cells #[.pointer (some ⟨c, 0, none⟩)] 59 (0, 0))) (fun x _ => m - (intOf x).toNat)
  case atStart => exact ⟨0, Nat.zero_le _, rfl, h0, HW1.out, hBn⟩
  case round =>
    obtain ⟨k, hk, rfl, hJs, hwr, hbn⟩ := hrel
    have HJS := Lib.hid hJs
    have HWR := Lib.hid hwr
    have HBN := Lib.hid hbn
    by_cases hkm : k < m
    · have hkl : k < P.length := by have := HN.out; omega
      have Hwr := Lib.hid (H.out.below hwr)
      obtain ⟨g, off, hA, hg, d0, d1⟩ := Hwr.out.sl.pg hkl
      have hmem : P[k] ∈ P := List.getElem_mem _
      have mk := Hwr.out.maps _ hmem
      obtain ⟨y, hy⟩ : ∃ y, P[k] = y := ⟨_, rfl⟩
      have HUT : Hid (usedC M size (P.take (k + 1)) = usedC M size (P.take k) ++ usedB size y M) := Lib.hid (by rw [← hy]; exact usedC_take M size P k hkl)
      have HUS : Hid (∀ f, f < M → bitW y.ws f = true → (usedC M size (P.take k) ++ usedB size y f).length < (usedC M size P).length) := Lib.hid (fun f hf hb => by rw [← hy] at hb ⊢; exact usedC_short hkl hf hb)
      rw [hy] at d0 d1 mk hmem
      obtain ⟨Y, hYY⟩ : ∃ Y : Int, ((1024 * y.q : Nat) : Int) = Y := ⟨_, rfl⟩
      rw [hYY] at d1
      have HYY := Lib.hid hYY
      have HMEM := Lib.hid hmem
      subst hA
      have i1 : (k : Int) < (m : Int) := by omega
      have i0 : (0 : Int) ≤ (k : Int) := by omega
      have zk : IntKind.i64.wrap ((k : Int) + 1) = (k : Int) + 1 := by rw [IntKind.wrap_i64]; have := HS.out; have := HN.out; omega
      clear hJs hbn b0 c2 hYY hmem hy hkl hBn h0
      gi_wp2_with fail
      have g2 := World.grownBy_alloc wr (.cells #[.pointer (some ⟨y.gm, 0, none⟩), .int .i64 Y] 104) none
      have b2 : Below wr.heap.size wr (wr.alloc (.cells #[.pointer (some ⟨y.gm, 0, none⟩), .int .i64 Y] 104)) := (Below.refl _ wr).alloc (Nat.le_refl _) _
      have o2 := heap_alloc_new wr (.cells #[.pointer (some ⟨y.gm, 0, none⟩), .int .i64 Y] 104)
      have HJ2 := Lib.hid (HJ.out _ _ _ none HJS.out g2 (fun r e => by cases e))
      have HBN2 := Lib.hid ((b2.block Bn (blt HBN.out)).trans HBN.out)
      have HWR2 := Lib.hid (HWR.out.trans (b2.mono HWR.out.size))
      obtain ⟨z, hz⟩ : ∃ z, wr.heap.size = z := ⟨_, rfl⟩
      rw [hz] at o2
      rw [hz]
      generalize hw2 : wr.alloc (.cells #[.pointer (some ⟨y.gm, 0, none⟩), .int .i64 Y] 104) = w2 at HJ2 HBN2 HWR2 o2 ⊢
      have HO2 := Lib.hid o2
      have h2 := H.out.below HWR2.out
      have T2 : Hid (TabZ w2) := Lib.hid (HT.out.below HT.out.lt h2.bg.way)
      have MK2 := Lib.hid (h2.maps y HMEM.out)
      clear hw2 g2 b2 o2 hz d0 d1 mk hwr h2
      refine ⟨trivial, ?_⟩
      refine (callsIn_wide.2 (first_any true w2 y.gm y.gw M y.ws 0 (by omega) MK2.out T2.out)).mono ?_
      rintro e w' ⟨r, rfl, hr, hw'⟩
      have hw2 := hw'.symm
      clear hw'
      subst hw2
      have HR := Lib.hid hr
      clear hr
      gi_wp2_with fail
      gi_loopw [5] (fun v wx => ∃ (f : Nat) (r : Int), v = .int .i64 r ∧ f ≤ M ∧ FirstS true M y.ws f r ∧ J (usedC M size (P.take k) ++ usedB size y f) wx ∧ Below w.heap.size w wx ∧ wx.heap[Bn]? = some (.cells #[.pointer (some ⟨c, 0, none⟩)] 59 (0, 0)) ∧ wx.heap[z]? = some (.cells #[.pointer (some ⟨y.gm, 0, none⟩), .int .i64 Y] 104 (0, 0))) (fun v _ => measU M (intOf v))
      case atStart => exact ⟨0, r, rfl, Nat.zero_le _, HR.out, by rw [usedB_zero, List.append_nil]; exact HJ2.out, HWR2.out, HBN2.out, HO2.out⟩
      case round =>
        obtain ⟨f, r, rfl, hf, hr, hJx, hwx, hbx, hzx⟩ := hrel
        have HJX := Lib.hid hJx
        have HWX := Lib.hid hwx
        have HBX := Lib.hid hbx
        have HZX := Lib.hid hzx
        rcases hr with ⟨rfl, hn⟩ | ⟨i, rfl, hfi, hiM, hbit, hn⟩
        · have HE : Hid (usedB size y M = usedB size y f) := Lib.hid (by
            obtain ⟨d, rfl⟩ := Nat.exists_eq_add_of_le hf
            exact usedB_skip fun j h1 h2 => by have := hn j h1 h2; simpa using this)
          clear hJx hwx hbx hzx hn
          gi_wp2
          go_roundw
          case rel => exact ⟨k + 1, by omega, by go_num, by rw [HUT.out, HE.out]; exact HJX.out, HWX.out, HBX.out⟩
          case measure => (try simp [intOf]) <;> omega
        · have HE : Hid (usedB size y (i + 1) = usedB size y f ++ [((1024 * y.q + 64 + i * size : Nat) : Int)]) := Lib.hid (by
            rw [usedB_add hbit]
            obtain ⟨d, rfl⟩ := Nat.exists_eq_add_of_le hfi
            rw [usedB_skip fun j h1 h2 => by have := hn j h1 h2; simpa using this])
          have HLEN : Hid ((usedC M size (P.take k) ++ usedB size y f).length < (usedC M size P).length) := Lib.hid (by
            have := HUS.out i hiM hbit
            have h3 := usedB_mono size y hfi
            rw [List.length_append] at this ⊢
            omega)
          obtain ⟨I, hI⟩ : ∃ I : Int, (i : Int) = I := ⟨_, rfl⟩
          have HII := Lib.hid hI
          obtain ⟨R, hR⟩ : ∃ R : Int, ((1024 * y.q + 64 + i * size : Nat) : Int) = R := ⟨_, rfl⟩
          have HRR := Lib.hid hR
          have HIM := Lib.hid hiM
          have p0 : decide ((0 : Int) ≤ I) = true := decide_eq_true (by omega)
          have zi : IntKind.i64.wrap (I + 1) = I + 1 := by rw [IntKind.wrap_i64]; have := HS.out; omega
          have bb := cell_of_row _ _ 0 _ _ _ HBX.out
          have z0 := cell_of_row _ _ 0 _ _ _ HZX.out
          have z1 := cell_of_row _ _ 1 _ _ _ HZX.out
          have hx := H.out.below HWX.out
          have HX := Lib.hid hx
          rw [hI]
          clear hJx hwx hbx hzx hn hfi hiM hbit hI hR hx
          gi_wp2_with fail
          refine ⟨trivial, ?_⟩
          refine (callsIn_wide.2 (place_any c size (1024 * y.q) i _ rfl wr HS.out.2.1 (by have := HS.out; have := HIM.out; omega) (by have := HQ.out y HMEM.out; omega) I R HII.out.symm Y HYY.out.symm HRR.out.symm HX.out.c1 HX.out.clt)).mono ?_
          rintro e w3 ⟨rfl, b3⟩
          have hj3 := HJ.out _ _ _ none HJX.out (grown_of_below b3) (fun r e => by cases e)
          obtain ⟨fn, tmps, assign, body, hy, hR⟩ := hY _ R w3 hj3 HLEN.out
          have HBN3 := Lib.hid ((b3.block Bn (blt HBX.out)).trans HBX.out)
          have HZX3 := Lib.hid ((b3.block z (blt HZX.out)).trans HZX.out)
          have HW3 := Lib.hid (HWX.out.trans (b3.mono HWX.out.size))
          clear b3 hj3 bb z0 z1
          gi_wp2
          refine hR.mono ?_
          rintro e w4 (⟨rfl, hJ4, hk4⟩ | ⟨rfl, hJx4⟩)
          · have HJ4 := Lib.hid hJ4
            have HB4 := Lib.hid (hk4.2 _ _ _ HBN3.out (by decide) (by decide))
            have HZ4 := Lib.hid (hk4.2 _ _ _ HZX3.out (by decide) (by decide))
            have HW4 := Lib.hid (HW3.out.trans hk4.1)
            have z4 := cell_of_row _ _ 0 _ _ _ HZ4.out
            have h4 := H.out.below HW4.out
            have T4 : Hid (TabZ w4) := Lib.hid (HT.out.below HT.out.lt h4.bg.way)
            have MK4 := Lib.hid (h4.maps y HMEM.out)
            clear hJ4 hk4 h4 hy hR
            gi_wp2_with fail
            refine ⟨trivial, ?_⟩
            refine (callsIn_wide.2 (first_lit0 true w4 y.gm y.gw M y.ws (i + 1) (I + 1) (by have := HII.out; omega) (by have := HIM.out; have := HS.out; omega) MK4.out T4.out)).mono ?_
            rintro e w' ⟨r, rfl, hr, hw'⟩
            have hw2 := hw'.symm
            clear hw'
            subst hw2
            have HR4 := Lib.hid hr
            clear hr
            gi_wp2
            go_roundw
            case rel => exact ⟨i + 1, r, rfl, HIM.out, HR4.out, by rw [HE.out, ← List.append_assoc, HRR.out]; exact HJ4.out, HW4.out, HB4.out, HZ4.out⟩
            case measure =>
              have := HIM.out
              have hi2 := HII.out
              simp only [intOf]
              unfold measU
              rw [if_neg (show ¬ (I < 0) by omega)]
              rcases HR4.out with ⟨rfl, _⟩ | ⟨j, rfl, g1, g2, _⟩
              · rw [if_pos (by omega)]; omega
              · rw [if_neg (by omega)]; omega
          · gi_wp2
            refine bodyPost_ret (results_none rfl _ _ _) rfl ?_
            exact ⟨⟨_, rfl⟩, .inr ⟨_, trivial, hJx4⟩⟩
    · have i1 : ¬ ((k : Int) < (m : Int)) := by omega
      have ek : k = m := by omega
      subst ek
      have e : usedC M size (P.take k) = usedC M size P := by rw [List.take_of_length_le (by have := HN.out; omega)]
      rw [e] at HJS
      clear hJs hbn b0 c2 hwr e hBn h0
      gi_wp2
      go_end0
      exact ⟨⟨_, rfl⟩, .inl HJS.out⟩
end Go.Proofs.YtflkoabgkgegjaaDoor
