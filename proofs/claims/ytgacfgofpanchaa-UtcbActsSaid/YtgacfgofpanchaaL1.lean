/- The walk of UtcbItems. No condition. -/
import Derived.Test.YtgacfgofpanchaaProg
import Derived.Test.YtgacfgofpanchaaK19
import Derived.Test.YtgacfgofpanchaaU2
import Derived.WalkKit
import Derived.WalkLawsBesides
import Derived.WalkSpells
import Derived.Deep.QuietTactic
import Derived.BigQuiet
import Derived.Deep.RegionHeld3
import Derived.Deep.RegionLaw
import Derived.Outline
import Derived.Lib.LazyBuf
import Derived.Deep.WholeRow
namespace Go.Proofs.Ytgacfgofpanchaa
open Go.RowKit

theorem item_cells {w : World} {g : Nat} {i : Itm} (h : w.heap[g]? = some (.cells #[.int .i64 i.base, .int .i64 i.order, .int .i64 i.rights, .int .i64 i.off, .bool i.grant] 24 (0, 0))) : w.cell? ⟨g, 0, none⟩ = some (.int .i64 i.base) ∧ w.cell? ⟨g, 1, none⟩ = some (.int .i64 i.order) ∧ w.cell? ⟨g, 2, none⟩ = some (.int .i64 i.rights) ∧ w.cell? ⟨g, 3, none⟩ = some (.int .i64 i.off) ∧ w.cell? ⟨g, 4, none⟩ = some (.bool i.grant) :=
  ⟨cell_of_row w g 0 _ _ _ h, cell_of_row w g 1 _ _ _ h, cell_of_row w g 2 _ _ _ h, cell_of_row w g 3 _ _ _ h, cell_of_row w g 4 _ _ _ h⟩
/-- a variable, and the way here -/
structure VarK (W w : World) (b : Nat) (cs : Array Value) (t : TypeId) : Prop where
  row : w.heap[b]? = some (.cells cs t (0, 0))
  way : Below W.heap.size W w
theorem VarK.below {W w w' : World} {b : Nat} {cs : Array Value} {t : TypeId} (h : VarK W w b cs t) (hb : Below w.heap.size w w') : VarK W w' b cs t := ⟨(hb.block b (blt h.row)).trans h.row, h.way.trans (hb.mono h.way.size)⟩
theorem VarK.alloc {W w : World} {b : Nat} {cs : Array Value} {t : TypeId} (h : VarK W w b cs t) (o : Obj) : VarK W (w.alloc o) b cs t := h.below ((Below.refl _ _).alloc (Nat.le_refl _) _)
theorem VarK.new {W w : World} (cs : Array Value) (t : TypeId) (h : Below W.heap.size W w) : VarK W (w.alloc (.cells cs t)) w.heap.size cs t := ⟨heap_alloc_new w _, h.alloc h.size _⟩
structure ItS (W w : World) (g1 g2 gw : Nat) (j : Itm) (b o : Int) : Prop where
  v1 : VarK W w g1 #[.int .i64 j.base, .int .i64 j.order, .int .i64 j.rights, .int .i64 j.off, .bool j.grant] 24
  v2 : VarK W w g2 #[.int .i64 j.base, .int .i64 j.order, .int .i64 j.rights, .int .i64 j.off, .bool j.grant] 24
  vw : VarK W w gw #[.int .i64 b, .int .i64 o] 26
theorem ItS.below {W w w' : World} {g1 g2 gw : Nat} {j : Itm} {b o : Int} (h : ItS W w g1 g2 gw j b o) (hb : Below w.heap.size w w') : ItS W w' g1 g2 gw j b o := ⟨h.v1.below hb, h.v2.below hb, h.vw.below hb⟩
theorem ItS.drew {W w : World} {g1 g2 gw : Nat} {j : Itm} {b o : Int} (h : ItS W w g1 g2 gw j b o) : ItS W w.drew g1 g2 gw j b o := h.below (Below.refl _ _).drew
theorem ItS.cells {W w' : World} {g1 g2 gw : Nat} {j : Itm} {b o : Int} (h : ItS W w' g1 g2 gw j b o) : w'.cell? ⟨g1, 0, none⟩ = some (.int .i64 j.base) ∧ w'.cell? ⟨g1, 1, none⟩ = some (.int .i64 j.order) ∧ w'.cell? ⟨g1, 2, none⟩ = some (.int .i64 j.rights) ∧ w'.cell? ⟨g1, 3, none⟩ = some (.int .i64 j.off) ∧ w'.cell? ⟨g1, 4, none⟩ = some (.bool j.grant) ∧ w'.cell? ⟨g2, 0, none⟩ = some (.int .i64 j.base) ∧ w'.cell? ⟨g2, 1, none⟩ = some (.int .i64 j.order) ∧ w'.cell? ⟨g2, 2, none⟩ = some (.int .i64 j.rights) ∧ w'.cell? ⟨g2, 3, none⟩ = some (.int .i64 j.off) ∧ w'.cell? ⟨g2, 4, none⟩ = some (.bool j.grant) ∧ w'.cell? ⟨gw, 0, none⟩ = some (.int .i64 b) ∧ w'.cell? ⟨gw, 1, none⟩ = some (.int .i64 o) := by
  obtain ⟨a0, a1, a2, a3, a4⟩ := item_cells h.v1.row
  obtain ⟨b0, b1, b2, b3, b4⟩ := item_cells h.v2.row
  exact ⟨a0, a1, a2, a3, a4, b0, b1, b2, b3, b4, cell_of_row w' gw 0 _ _ _ h.vw.row, cell_of_row w' gw 1 _ _ _ h.vw.row⟩
theorem may_s {W w : World} {g1 g2 gw : Nat} {j : Itm} {b o : Int} (r : Bool) (hr : alignedB b o = r) (h : ItS W w g1 g2 gw j b o) : Calls Try.prog 15 #[.agg #[.int .i64 b, .int .i64 o]] w fun e w' => e = .returned (.bool r) ∧ ItS W w' g1 g2 gw j b o :=
  (pmay_any b o r hr w).mono fun _e _w' q => ⟨q.1, h.below q.2⟩
theorem may14_s {W w : World} {g1 g2 gw : Nat} {j : Itm} {b o : Int} (r : Bool) (hr : alignedB b o = r) (h : ItS W w g1 g2 gw j b o) : Calls Try.prog 16 #[.agg #[.int .i64 b, .int .i64 o]] w fun e w' => e = .returned (.bool r) ∧ ItS W w' g1 g2 gw j b o :=
  (may14_u b o r hr w).mono fun _e _w' q => ⟨q.1, h.below q.2⟩
set_option maxRecDepth 100000 in
set_option maxHeartbeats 3200000 in
theorem items_any (x : Nat) (hx : x < 18446744073709551616) (i : Itm) (b o : Int) (w : World) : Calls Try.prog 3 #[.int .u64 (x : Int), .agg #[.int .i64 i.base, .int .i64 i.order, .int .i64 i.rights, .int .i64 i.off, .bool i.grant], .agg #[.int .i64 b, .int .i64 o]] w fun e w' => e = .returned (.bool true) ∧ Below w.heap.size w w' := by
  have HX := Lib.hid hx
  obtain ⟨cx, hcx⟩ : ∃ cx, codeX i = cx := ⟨_, rfl⟩
  obtain ⟨rc, hrc⟩ : ∃ rc, mayI i = rc := ⟨_, rfl⟩
  obtain ⟨j, hj⟩ : ∃ j, itemX x = j := ⟨_, rfl⟩
  obtain ⟨rj, hrj⟩ : ∃ rj, itemOk x = rj := ⟨_, rfl⟩
  obtain ⟨rw_, hrw⟩ : ∃ rw_, alignedB b o = rw_ := ⟨_, rfl⟩
  have HCX := Lib.hid hcx
  have HRC := Lib.hid hrc
  have HJ := Lib.hid hj
  have HRJ := Lib.hid hrj
  have HRW := Lib.hid hrw
  have V1 := Lib.hid ((VarK.new (W := w) (w := w) #[.int .i64 i.base, .int .i64 i.order, .int .i64 i.rights, .int .i64 i.off, .bool i.grant] 24 (Below.refl _ _)).alloc (.cells #[.int .i64 b, .int .i64 o] 26))
  have V2 : Hid (VarK w ((w.alloc (.cells #[.int .i64 i.base, .int .i64 i.order, .int .i64 i.rights, .int .i64 i.off, .bool i.grant] 24)).alloc (.cells #[.int .i64 b, .int .i64 o] 26)) (w.heap.size + 1) #[.int .i64 b, .int .i64 o] 26) := Lib.hid (by
    have := VarK.new (W := w) (w := w.alloc (.cells #[.int .i64 i.base, .int .i64 i.order, .int .i64 i.rights, .int .i64 i.off, .bool i.grant] 24)) #[.int .i64 b, .int .i64 o] 26 ((Below.refl _ _).alloc (Nat.le_refl _) _)
    rwa [World.size_alloc] at this)
  clear hx hcx hrc hj hrj hrw
  go_enter Try.func3, Try.ntmps3
  go_wp2_with fail
  refine (alive_any _).mono ?_
  rintro e w1 ⟨rfl, hb1⟩
  obtain ⟨gi, hgi⟩ : ∃ gi, gi = w.heap.size := ⟨_, rfl⟩
  have U1 := Lib.hid (V1.out.below hb1)
  have U2 := Lib.hid (V2.out.below hb1)
  rw [← hgi] at U1 U2 ⊢
  clear hb1 V1 V2 hgi
  obtain ⟨c0, c1, c2, c3, c4⟩ := item_cells U1.out.row
  go_wp2_with fail
  refine (code_u i cx rc HCX.out HRC.out _).mono ?_
  rintro e w2 ⟨rfl, hb2⟩
  have X1 := Lib.hid (U1.out.below hb2)
  have X2 := Lib.hid (U2.out.below hb2)
  clear hb2 c0 c1 c2 c3 c4 U1 U2
  obtain ⟨c0, c1, c2, c3, c4⟩ := item_cells X1.out.row
  go_wp2_with fail
  refine (code14_u i cx rc HCX.out HRC.out _).mono ?_
  rintro e w3 ⟨rfl, hb3⟩
  have Y2 := Lib.hid (X2.out.below hb3)
  clear hb3 c0 c1 c2 c3 c4 X1 X2
  go_wp2_with fail
  refine (item_u x HX.out j rj HJ.out HRJ.out _).mono ?_
  rintro e w4 ⟨rfl, hb4⟩
  have Z1 := Lib.hid (VarK.new (W := w) #[.int .i64 j.base, .int .i64 j.order, .int .i64 j.rights, .int .i64 j.off, .bool j.grant] 24 ((Y2.out.below hb4).way))
  have Z2 := Lib.hid ((Y2.out.below hb4).alloc (.cells #[.int .i64 j.base, .int .i64 j.order, .int .i64 j.rights, .int .i64 j.off, .bool j.grant] 24))
  clear hb4 Y2
  go_wp2_with fail
  refine (item14_u x HX.out j rj HJ.out HRJ.out _).mono ?_
  rintro e w5 ⟨rfl, hb5⟩
  obtain ⟨g1, hg1⟩ : ∃ g1, g1 = w4.heap.size := ⟨_, rfl⟩
  have hS : ItS w (w5.alloc (.cells #[.int .i64 j.base, .int .i64 j.order, .int .i64 j.rights, .int .i64 j.off, .bool j.grant] 24)) g1 w5.heap.size (gi + 1) j b o := ⟨by rw [hg1]; exact (Z1.out.below hb5).alloc _, VarK.new _ _ (Z1.out.below hb5).way, (Z2.out.below hb5).alloc _⟩
  rw [← hg1]
  obtain ⟨w6, hw6⟩ : ∃ w6, w6 = w5.alloc (.cells #[.int .i64 j.base, .int .i64 j.order, .int .i64 j.rights, .int .i64 j.off, .bool j.grant] 24) := ⟨_, rfl⟩
  obtain ⟨g2, hg2⟩ : ∃ g2, g2 = w5.heap.size := ⟨_, rfl⟩
  rw [← hw6, ← hg2] at hS
  have HS := Lib.hid hS
  clear hb5 hg1 Z1 Z2 hS
  go_wp2_with fail
  rw [← hw6, ← hg2]
  clear hw6 hg2
  have hS := HS.out
  have hSd := HS.out.drew
  have rq := run_eq_item j j
  rw [eqI_self] at rq
  have e1 : ((cx : Int) == (cx : Int)) = true := by simp
  go_region_held3 (fun w' => w'.cell? ⟨g1, 0, none⟩ = some (.int .i64 j.base) ∧ w'.cell? ⟨g1, 1, none⟩ = some (.int .i64 j.order) ∧ w'.cell? ⟨g1, 2, none⟩ = some (.int .i64 j.rights) ∧ w'.cell? ⟨g1, 3, none⟩ = some (.int .i64 j.off) ∧ w'.cell? ⟨g1, 4, none⟩ = some (.bool j.grant) ∧ w'.cell? ⟨g2, 0, none⟩ = some (.int .i64 j.base) ∧ w'.cell? ⟨g2, 1, none⟩ = some (.int .i64 j.order) ∧ w'.cell? ⟨g2, 2, none⟩ = some (.int .i64 j.rights) ∧ w'.cell? ⟨g2, 3, none⟩ = some (.int .i64 j.off) ∧ w'.cell? ⟨g2, 4, none⟩ = some (.bool j.grant) ∧ w'.cell? ⟨(gi + 1), 0, none⟩ = some (.int .i64 b) ∧ w'.cell? ⟨(gi + 1), 1, none⟩ = some (.int .i64 o)) (exact ItS.cells (by assumption)) (first | (go_at_call 15; (with_reducible refine (may_s rw_ HRW.out (by assumption)).mono ?_); rintro e w7 ⟨rfl, h7⟩) | (go_at_call 16; (with_reducible refine (may14_s rw_ HRW.out (by assumption)).mono ?_); rintro e w8 ⟨rfl, h8⟩))
  all_goals
    go_wp2
    go_ret
    exact ⟨rfl, (show ItS w _ g1 g2 (gi + 1) j b o by assumption).v1.way⟩
end Go.Proofs.Ytgacfgofpanchaa
