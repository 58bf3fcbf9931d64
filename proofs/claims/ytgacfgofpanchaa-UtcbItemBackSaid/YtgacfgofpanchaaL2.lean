/- The walk of UtcbItemBack. No condition. -/
import Derived.Test.YtgacfgofpanchaaProg
import Derived.Test.YtgacfgofpanchaaL1
import Derived.WalkKit
import Derived.WalkLawsBesides
import Derived.WalkSpells
import Derived.Deep.QuietTactic
import Derived.BigQuiet
import Derived.Deep.RegionHeld3
import Derived.Deep.RegionLaw
import Derived.Outline
import Derived.Lib.LazyBuf
import Derived.Deep.WholeRow
namespace Go.Proofs.Ytgacfgofpanchaa
open Go.RowKit

theorem codeX_lt (i : Itm) : codeX i < 18446744073709551616 ∧ codeX i < 4294967296 := by
  unfold codeX
  split
  · rename_i h; have := codeI_lt i h; omega
  · omega
theorem codeX_yes {i : Itm} (h : mayI i = true) : codeX i = codeI i := by unfold codeX; rw [if_pos h]
theorem ok_code (i : Itm) (h : mayI i = true) : itemOk (codeX i) = true := by rw [codeX_yes h]; exact itemOk_codeI i h
theorem item_code (i : Itm) (h : mayI i = true) : itemX (codeX i) = i := by
  unfold itemX
  rw [if_pos (ok_code i h), codeX_yes h]
  exact itemOf_codeI i h
theorem item_none (x : Nat) (h : itemOk x = false) : itemX x = ⟨0, 0, 0, 0, false⟩ := by
  unfold itemX
  rw [if_neg (by simp [h])]
theorem may_item (x : Nat) (h : itemOk x = true) : mayI (itemX x) = true := by
  unfold itemX
  rw [if_pos h]
  exact ((itemOk_iff x).1 h).1
theorem code_item (x : Nat) (h : itemOk x = true) : codeX (itemX x) = x := by
  rw [codeX_yes (may_item x h)]
  unfold itemX
  rw [if_pos h]
  exact ((itemOk_iff x).1 h).2
set_option maxRecDepth 100000 in
set_option maxHeartbeats 3200000 in
/-- the first item may not be -/
theorem back_no (x : Nat) (hx : x < 18446744073709551616) (i k : Itm) (hi : mayI i = false) (w : World) : Calls Try.prog 4 #[.int .u64 (x : Int), .agg #[.int .i64 i.base, .int .i64 i.order, .int .i64 i.rights, .int .i64 i.off, .bool i.grant], .agg #[.int .i64 k.base, .int .i64 k.order, .int .i64 k.rights, .int .i64 k.off, .bool k.grant]] w fun e w' => e = .returned (.bool true) ∧ Below w.heap.size w w' := by
  have HX := Lib.hid hx
  obtain ⟨cx, hcx⟩ : ∃ cx, codeX i = cx := ⟨_, rfl⟩
  obtain ⟨ck, hck⟩ : ∃ ck, codeX k = ck := ⟨_, rfl⟩
  have HCX := Lib.hid hcx
  have HCK := Lib.hid hck
  have HI := Lib.hid hi
  obtain ⟨rk, hk⟩ : ∃ rk, mayI k = rk := ⟨_, rfl⟩
  have HK := Lib.hid hk
  clear hx hcx hck hi hk
  have V1 := Lib.hid ((VarK.new (W := w) (w := w) #[.int .i64 i.base, .int .i64 i.order, .int .i64 i.rights, .int .i64 i.off, .bool i.grant] 24 (Below.refl _ _)).alloc (.cells #[.int .i64 k.base, .int .i64 k.order, .int .i64 k.rights, .int .i64 k.off, .bool k.grant] 24))
  have V2 : Hid (VarK w ((w.alloc (.cells #[.int .i64 i.base, .int .i64 i.order, .int .i64 i.rights, .int .i64 i.off, .bool i.grant] 24)).alloc (.cells #[.int .i64 k.base, .int .i64 k.order, .int .i64 k.rights, .int .i64 k.off, .bool k.grant] 24)) (w.heap.size + 1) #[.int .i64 k.base, .int .i64 k.order, .int .i64 k.rights, .int .i64 k.off, .bool k.grant] 24) := Lib.hid (by
    have := VarK.new (W := w) (w := w.alloc (.cells #[.int .i64 i.base, .int .i64 i.order, .int .i64 i.rights, .int .i64 i.off, .bool i.grant] 24)) #[.int .i64 k.base, .int .i64 k.order, .int .i64 k.rights, .int .i64 k.off, .bool k.grant] 24 ((Below.refl _ _).alloc (Nat.le_refl _) _)
    rwa [World.size_alloc] at this)
  go_enter Try.func4, Try.ntmps4
  go_wp2_with fail
  refine (alive_any _).mono ?_
  rintro e w1 ⟨rfl, hb1⟩
  obtain ⟨gi, hgi⟩ : ∃ gi, gi = w.heap.size := ⟨_, rfl⟩
  have U1 := Lib.hid (V1.out.below hb1)
  have U2 := Lib.hid (V2.out.below hb1)
  rw [← hgi] at U1 U2 ⊢
  clear hb1 V1 V2 hgi
  obtain ⟨c0, c1, c2, c3, c4⟩ := item_cells U1.out.row
  go_wp2_with fail
  refine (code_u i cx false HCX.out HI.out _).mono ?_
  rintro e w2 ⟨rfl, hb2⟩
  have X1 := Lib.hid (U1.out.below hb2)
  have X2 := Lib.hid (U2.out.below hb2)
  clear hb2 c0 c1 c2 c3 c4 U1 U2
  obtain ⟨c0, c1, c2, c3, c4⟩ := item_cells X2.out.row
  go_wp2_with fail
  refine (code_u k ck rk HCK.out HK.out _).mono ?_
  rintro e w3 ⟨rfl, hb3⟩
  have Y1 := Lib.hid (X1.out.below hb3)
  have Y2 := Lib.hid (X2.out.below hb3)
  clear hb3 c0 c1 c2 c3 c4 X1 X2
  have Zw : Hid (Below w.heap.size w w3) := Lib.hid Y1.out.way
  clear Y1 Y2
  by_cases hxo : itemOk x = true
  · have HXO := Lib.hid hxo
    obtain ⟨j, hj⟩ : ∃ j, itemX x = j := ⟨_, rfl⟩
    have HJ := Lib.hid hj
    have HJC : Hid (codeX j = x) := Lib.hid (by rw [← hj]; exact code_item x hxo)
    have HJM : Hid (mayI j = true) := Lib.hid (by rw [← hj]; exact may_item x hxo)
    clear hxo hj
    go_wp2_with fail
    refine (item_u x HX.out j true HJ.out HXO.out _).mono ?_
    rintro e w6 ⟨rfl, hb6⟩
    have Bw : Hid (Below w.heap.size w (w6.alloc (.cells #[.int .i64 j.base, .int .i64 j.order, .int .i64 j.rights, .int .i64 j.off, .bool j.grant] 24))) := Lib.hid (((Zw.out.trans (hb6.mono Zw.out.size))).alloc (Nat.le_trans Zw.out.size hb6.size) _)
    clear hb6
    go_wp2_with fail
    refine (code_u j x true HJC.out HJM.out _).mono ?_
    rintro e w7 ⟨rfl, hb7⟩
    have Bw7 : Hid (Below w.heap.size w w7) := Lib.hid (Bw.out.trans (hb7.mono Bw.out.size))
    clear hb7
    go_wp2
    go_ret
    exact ⟨rfl, Bw7.out⟩
  · have hxo' : itemOk x = false := by simpa using hxo
    have HXO := Lib.hid hxo'
    clear hxo hxo'
    go_wp2_with fail
    refine (item_u x HX.out ⟨0, 0, 0, 0, false⟩ false (item_none x HXO.out) HXO.out _).mono ?_
    rintro e w6 ⟨rfl, hb6⟩
    have Bw : Hid (Below w.heap.size w w6) := Lib.hid ((Zw.out.trans (hb6.mono Zw.out.size)))
    clear hb6
    go_wp2
    go_ret
    exact ⟨rfl, Bw.out.alloc Bw.out.size _⟩
set_option maxRecDepth 100000 in
set_option maxHeartbeats 3200000 in
theorem back_same (x : Nat) (hx : x < 18446744073709551616) (i k : Itm) (hi : mayI i = true) (hk : mayI k = true) (he : codeX i = codeX k) (w : World) : Calls Try.prog 4 #[.int .u64 (x : Int), .agg #[.int .i64 i.base, .int .i64 i.order, .int .i64 i.rights, .int .i64 i.off, .bool i.grant], .agg #[.int .i64 k.base, .int .i64 k.order, .int .i64 k.rights, .int .i64 k.off, .bool k.grant]] w fun e w' => e = .returned (.bool true) ∧ Below w.heap.size w w' := by
  have hik : i = k := codeI_inj i k hi hk (by rw [← codeX_yes hi, ← codeX_yes hk]; exact he)
  subst hik
  have HX := Lib.hid hx
  obtain ⟨cx, hcx⟩ : ∃ cx, codeX i = cx := ⟨_, rfl⟩
  obtain ⟨ck, hck⟩ : ∃ ck, codeX i = ck := ⟨_, rfl⟩
  have HCX := Lib.hid hcx
  have HCK := Lib.hid hck
  have HI := Lib.hid hi
  have HCL : Hid (cx < 18446744073709551616) := Lib.hid (by rw [← hcx]; exact (codeX_lt i).1)
  have HC32 : Hid ((cx : Int) < 4294967296) := Lib.hid (by have := (codeX_lt i).2; rw [hcx] at this; omega)
  have HIO : Hid (itemOk cx = true) := Lib.hid (by rw [← hcx]; exact ok_code i hi)
  have HIX : Hid (itemX cx = i) := Lib.hid (by rw [← hcx]; exact item_code i hi)
  have HK := Lib.hid hk
  have e1 : ((cx : Int) == (ck : Int)) = true := by rw [← hcx, ← hck]; simp
  clear hx hcx hck hi hk he
  have V1 := Lib.hid ((VarK.new (W := w) (w := w) #[.int .i64 i.base, .int .i64 i.order, .int .i64 i.rights, .int .i64 i.off, .bool i.grant] 24 (Below.refl _ _)).alloc (.cells #[.int .i64 i.base, .int .i64 i.order, .int .i64 i.rights, .int .i64 i.off, .bool i.grant] 24))
  have V2 : Hid (VarK w ((w.alloc (.cells #[.int .i64 i.base, .int .i64 i.order, .int .i64 i.rights, .int .i64 i.off, .bool i.grant] 24)).alloc (.cells #[.int .i64 i.base, .int .i64 i.order, .int .i64 i.rights, .int .i64 i.off, .bool i.grant] 24)) (w.heap.size + 1) #[.int .i64 i.base, .int .i64 i.order, .int .i64 i.rights, .int .i64 i.off, .bool i.grant] 24) := Lib.hid (by
    have := VarK.new (W := w) (w := w.alloc (.cells #[.int .i64 i.base, .int .i64 i.order, .int .i64 i.rights, .int .i64 i.off, .bool i.grant] 24)) #[.int .i64 i.base, .int .i64 i.order, .int .i64 i.rights, .int .i64 i.off, .bool i.grant] 24 ((Below.refl _ _).alloc (Nat.le_refl _) _)
    rwa [World.size_alloc] at this)
  go_enter Try.func4, Try.ntmps4
  go_wp2_with fail
  refine (alive_any _).mono ?_
  rintro e w1 ⟨rfl, hb1⟩
  obtain ⟨gi, hgi⟩ : ∃ gi, gi = w.heap.size := ⟨_, rfl⟩
  have U1 := Lib.hid (V1.out.below hb1)
  have U2 := Lib.hid (V2.out.below hb1)
  rw [← hgi] at U1 U2 ⊢
  clear hb1 V1 V2 hgi
  obtain ⟨c0, c1, c2, c3, c4⟩ := item_cells U1.out.row
  go_wp2_with fail
  refine (code_u i cx true HCX.out HI.out _).mono ?_
  rintro e w2 ⟨rfl, hb2⟩
  have X1 := Lib.hid (U1.out.below hb2)
  have X2 := Lib.hid (U2.out.below hb2)
  clear hb2 c0 c1 c2 c3 c4 U1 U2
  obtain ⟨c0, c1, c2, c3, c4⟩ := item_cells X2.out.row
  go_wp2_with fail
  refine (code_u i ck true HCK.out HK.out _).mono ?_
  rintro e w3 ⟨rfl, hb3⟩
  have Y1 := Lib.hid (X1.out.below hb3)
  have Y2 := Lib.hid (X2.out.below hb3)
  clear hb3 c0 c1 c2 c3 c4 X1 X2
  go_wp2_with fail
  refine (item_u cx HCL.out i true HIX.out HIO.out _).mono ?_
  rintro e w4 ⟨rfl, hb4⟩
  obtain ⟨g1, hg1⟩ : ∃ g1, g1 = w4.heap.size := ⟨_, rfl⟩
  have Z1 : Hid (VarK w (w4.alloc (.cells #[.int .i64 i.base, .int .i64 i.order, .int .i64 i.rights, .int .i64 i.off, .bool i.grant] 24)) g1 #[.int .i64 i.base, .int .i64 i.order, .int .i64 i.rights, .int .i64 i.off, .bool i.grant] 24) := Lib.hid (by rw [hg1]; exact VarK.new (W := w) #[.int .i64 i.base, .int .i64 i.order, .int .i64 i.rights, .int .i64 i.off, .bool i.grant] 24 ((Y1.out.below hb4).way))
  have Z2 := Lib.hid ((Y1.out.below hb4).alloc (.cells #[.int .i64 i.base, .int .i64 i.order, .int .i64 i.rights, .int .i64 i.off, .bool i.grant] 24))
  have Z3 := Lib.hid ((Y2.out.below hb4).alloc (.cells #[.int .i64 i.base, .int .i64 i.order, .int .i64 i.rights, .int .i64 i.off, .bool i.grant] 24))
  obtain ⟨w5, hw5⟩ : ∃ w5, w5 = w4.alloc (.cells #[.int .i64 i.base, .int .i64 i.order, .int .i64 i.rights, .int .i64 i.off, .bool i.grant] 24) := ⟨_, rfl⟩
  rw [← hw5] at Z1 Z2 Z3
  obtain ⟨a0, a1, a2, a3, a4⟩ := item_cells Z1.out.row
  obtain ⟨b0, b1, b2, b3, b4⟩ := item_cells Z2.out.row
  obtain ⟨d0, d1, d2, d3, d4⟩ := item_cells Z3.out.row
  rw [hw5, hg1] at a0 a1 a2 a3 a4
  rw [hw5] at b0 b1 b2 b3 b4 d0 d1 d2 d3 d4
  clear hb4 Y1 Y2
  have rq := run_neq_item i i
  rw [eqI_self] at rq
  have q3 : decide ((4294967296 : Int) ≤ (cx : Int)) = false := decide_eq_false (by have := HC32.out; omega)
  have Zw : Hid (Below w.heap.size w (w4.alloc (.cells #[.int .i64 i.base, .int .i64 i.order, .int .i64 i.rights, .int .i64 i.off, .bool i.grant] 24))) := Lib.hid (by rw [← hw5]; exact Z1.out.way)
  clear hw5 hg1 Z1 Z2 Z3
  by_cases hxo : itemOk x = true
  · have HXO := Lib.hid hxo
    obtain ⟨j, hj⟩ : ∃ j, itemX x = j := ⟨_, rfl⟩
    have HJ := Lib.hid hj
    have HJC : Hid (codeX j = x) := Lib.hid (by rw [← hj]; exact code_item x hxo)
    have HJM : Hid (mayI j = true) := Lib.hid (by rw [← hj]; exact may_item x hxo)
    clear hxo hj
    go_wp2_with fail
    refine (item_u x HX.out j true HJ.out HXO.out _).mono ?_
    rintro e w6 ⟨rfl, hb6⟩
    have Bw : Hid (Below w.heap.size w (w6.alloc (.cells #[.int .i64 j.base, .int .i64 j.order, .int .i64 j.rights, .int .i64 j.off, .bool j.grant] 24))) := Lib.hid (((Zw.out.trans (hb6.mono Zw.out.size))).alloc (Nat.le_trans Zw.out.size hb6.size) _)
    clear hb6
    go_wp2_with fail
    refine (code_u j x true HJC.out HJM.out _).mono ?_
    rintro e w7 ⟨rfl, hb7⟩
    have Bw7 : Hid (Below w.heap.size w w7) := Lib.hid (Bw.out.trans (hb7.mono Bw.out.size))
    clear hb7
    go_wp2
    go_ret
    exact ⟨rfl, Bw7.out⟩
  · have hxo' : itemOk x = false := by simpa using hxo
    have HXO := Lib.hid hxo'
    have hne : ((cx : Int) == (x : Int)) = false := by
      have : cx ≠ x := fun e => by
        have := HIO.out
        rw [e, HXO.out] at this
        cases this
      simp; omega
    clear hxo hxo'
    go_wp2_with fail
    refine (item_u x HX.out ⟨0, 0, 0, 0, false⟩ false (item_none x HXO.out) HXO.out _).mono ?_
    rintro e w6 ⟨rfl, hb6⟩
    have Bw : Hid (Below w.heap.size w w6) := Lib.hid ((Zw.out.trans (hb6.mono Zw.out.size)))
    clear hb6
    go_wp2
    go_ret
    exact ⟨rfl, Bw.out.alloc Bw.out.size _⟩
set_option maxRecDepth 100000 in
set_option maxHeartbeats 3200000 in
theorem back_apart (x : Nat) (hx : x < 18446744073709551616) (i k : Itm) (hi : mayI i = true) (hk : mayI k = true) (he : codeX i ≠ codeX k) (w : World) : Calls Try.prog 4 #[.int .u64 (x : Int), .agg #[.int .i64 i.base, .int .i64 i.order, .int .i64 i.rights, .int .i64 i.off, .bool i.grant], .agg #[.int .i64 k.base, .int .i64 k.order, .int .i64 k.rights, .int .i64 k.off, .bool k.grant]] w fun e w' => e = .returned (.bool true) ∧ Below w.heap.size w w' := by
  have HX := Lib.hid hx
  obtain ⟨cx, hcx⟩ : ∃ cx, codeX i = cx := ⟨_, rfl⟩
  obtain ⟨ck, hck⟩ : ∃ ck, codeX k = ck := ⟨_, rfl⟩
  have HCX := Lib.hid hcx
  have HCK := Lib.hid hck
  have HI := Lib.hid hi
  have HCL : Hid (cx < 18446744073709551616) := Lib.hid (by rw [← hcx]; exact (codeX_lt i).1)
  have HC32 : Hid ((cx : Int) < 4294967296) := Lib.hid (by have := (codeX_lt i).2; rw [hcx] at this; omega)
  have HIO : Hid (itemOk cx = true) := Lib.hid (by rw [← hcx]; exact ok_code i hi)
  have HIX : Hid (itemX cx = i) := Lib.hid (by rw [← hcx]; exact item_code i hi)
  have HK := Lib.hid hk
  have e1 : ((cx : Int) == (ck : Int)) = false := by
    have : cx ≠ ck := by rw [← hcx, ← hck]; exact he
    simp; omega
  clear hx hcx hck hi hk he
  have V1 := Lib.hid ((VarK.new (W := w) (w := w) #[.int .i64 i.base, .int .i64 i.order, .int .i64 i.rights, .int .i64 i.off, .bool i.grant] 24 (Below.refl _ _)).alloc (.cells #[.int .i64 k.base, .int .i64 k.order, .int .i64 k.rights, .int .i64 k.off, .bool k.grant] 24))
  have V2 : Hid (VarK w ((w.alloc (.cells #[.int .i64 i.base, .int .i64 i.order, .int .i64 i.rights, .int .i64 i.off, .bool i.grant] 24)).alloc (.cells #[.int .i64 k.base, .int .i64 k.order, .int .i64 k.rights, .int .i64 k.off, .bool k.grant] 24)) (w.heap.size + 1) #[.int .i64 k.base, .int .i64 k.order, .int .i64 k.rights, .int .i64 k.off, .bool k.grant] 24) := Lib.hid (by
    have := VarK.new (W := w) (w := w.alloc (.cells #[.int .i64 i.base, .int .i64 i.order, .int .i64 i.rights, .int .i64 i.off, .bool i.grant] 24)) #[.int .i64 k.base, .int .i64 k.order, .int .i64 k.rights, .int .i64 k.off, .bool k.grant] 24 ((Below.refl _ _).alloc (Nat.le_refl _) _)
    rwa [World.size_alloc] at this)
  go_enter Try.func4, Try.ntmps4
  go_wp2_with fail
  refine (alive_any _).mono ?_
  rintro e w1 ⟨rfl, hb1⟩
  obtain ⟨gi, hgi⟩ : ∃ gi, gi = w.heap.size := ⟨_, rfl⟩
  have U1 := Lib.hid (V1.out.below hb1)
  have U2 := Lib.hid (V2.out.below hb1)
  rw [← hgi] at U1 U2 ⊢
  clear hb1 V1 V2 hgi
  obtain ⟨c0, c1, c2, c3, c4⟩ := item_cells U1.out.row
  go_wp2_with fail
  refine (code_u i cx true HCX.out HI.out _).mono ?_
  rintro e w2 ⟨rfl, hb2⟩
  have X1 := Lib.hid (U1.out.below hb2)
  have X2 := Lib.hid (U2.out.below hb2)
  clear hb2 c0 c1 c2 c3 c4 U1 U2
  obtain ⟨c0, c1, c2, c3, c4⟩ := item_cells X2.out.row
  go_wp2_with fail
  refine (code_u k ck true HCK.out HK.out _).mono ?_
  rintro e w3 ⟨rfl, hb3⟩
  have Y1 := Lib.hid (X1.out.below hb3)
  have Y2 := Lib.hid (X2.out.below hb3)
  clear hb3 c0 c1 c2 c3 c4 X1 X2
  go_wp2_with fail
  refine (item_u cx HCL.out i true HIX.out HIO.out _).mono ?_
  rintro e w4 ⟨rfl, hb4⟩
  obtain ⟨g1, hg1⟩ : ∃ g1, g1 = w4.heap.size := ⟨_, rfl⟩
  have Z1 : Hid (VarK w (w4.alloc (.cells #[.int .i64 i.base, .int .i64 i.order, .int .i64 i.rights, .int .i64 i.off, .bool i.grant] 24)) g1 #[.int .i64 i.base, .int .i64 i.order, .int .i64 i.rights, .int .i64 i.off, .bool i.grant] 24) := Lib.hid (by rw [hg1]; exact VarK.new (W := w) #[.int .i64 i.base, .int .i64 i.order, .int .i64 i.rights, .int .i64 i.off, .bool i.grant] 24 ((Y1.out.below hb4).way))
  have Z2 := Lib.hid ((Y1.out.below hb4).alloc (.cells #[.int .i64 i.base, .int .i64 i.order, .int .i64 i.rights, .int .i64 i.off, .bool i.grant] 24))
  have Z3 := Lib.hid ((Y2.out.below hb4).alloc (.cells #[.int .i64 i.base, .int .i64 i.order, .int .i64 i.rights, .int .i64 i.off, .bool i.grant] 24))
  obtain ⟨w5, hw5⟩ : ∃ w5, w5 = w4.alloc (.cells #[.int .i64 i.base, .int .i64 i.order, .int .i64 i.rights, .int .i64 i.off, .bool i.grant] 24) := ⟨_, rfl⟩
  rw [← hw5] at Z1 Z2 Z3
  obtain ⟨a0, a1, a2, a3, a4⟩ := item_cells Z1.out.row
  obtain ⟨b0, b1, b2, b3, b4⟩ := item_cells Z2.out.row
  obtain ⟨d0, d1, d2, d3, d4⟩ := item_cells Z3.out.row
  rw [hw5, hg1] at a0 a1 a2 a3 a4
  rw [hw5] at b0 b1 b2 b3 b4 d0 d1 d2 d3 d4
  clear hb4 Y1 Y2
  have rq := run_neq_item i i
  rw [eqI_self] at rq
  have q3 : decide ((4294967296 : Int) ≤ (cx : Int)) = false := decide_eq_false (by have := HC32.out; omega)
  have Zw : Hid (Below w.heap.size w (w4.alloc (.cells #[.int .i64 i.base, .int .i64 i.order, .int .i64 i.rights, .int .i64 i.off, .bool i.grant] 24))) := Lib.hid (by rw [← hw5]; exact Z1.out.way)
  clear hw5 hg1 Z1 Z2 Z3
  by_cases hxo : itemOk x = true
  · have HXO := Lib.hid hxo
    obtain ⟨j, hj⟩ : ∃ j, itemX x = j := ⟨_, rfl⟩
    have HJ := Lib.hid hj
    have HJC : Hid (codeX j = x) := Lib.hid (by rw [← hj]; exact code_item x hxo)
    have HJM : Hid (mayI j = true) := Lib.hid (by rw [← hj]; exact may_item x hxo)
    clear hxo hj
    go_wp2_with fail
    refine (item_u x HX.out j true HJ.out HXO.out _).mono ?_
    rintro e w6 ⟨rfl, hb6⟩
    have Bw : Hid (Below w.heap.size w (w6.alloc (.cells #[.int .i64 j.base, .int .i64 j.order, .int .i64 j.rights, .int .i64 j.off, .bool j.grant] 24))) := Lib.hid (((Zw.out.trans (hb6.mono Zw.out.size))).alloc (Nat.le_trans Zw.out.size hb6.size) _)
    clear hb6
    go_wp2_with fail
    refine (code_u j x true HJC.out HJM.out _).mono ?_
    rintro e w7 ⟨rfl, hb7⟩
    have Bw7 : Hid (Below w.heap.size w w7) := Lib.hid (Bw.out.trans (hb7.mono Bw.out.size))
    clear hb7
    go_wp2
    go_ret
    exact ⟨rfl, Bw7.out⟩
  · have hxo' : itemOk x = false := by simpa using hxo
    have HXO := Lib.hid hxo'
    have hne : ((cx : Int) == (x : Int)) = false := by
      have : cx ≠ x := fun e => by
        have := HIO.out
        rw [e, HXO.out] at this
        cases this
      simp; omega
    clear hxo hxo'
    go_wp2_with fail
    refine (item_u x HX.out ⟨0, 0, 0, 0, false⟩ false (item_none x HXO.out) HXO.out _).mono ?_
    rintro e w6 ⟨rfl, hb6⟩
    have Bw : Hid (Below w.heap.size w w6) := Lib.hid ((Zw.out.trans (hb6.mono Zw.out.size)))
    clear hb6
    go_wp2
    go_ret
    exact ⟨rfl, Bw.out.alloc Bw.out.size _⟩
set_option maxRecDepth 100000 in
set_option maxHeartbeats 3200000 in
theorem back_other (x : Nat) (hx : x < 18446744073709551616) (i k : Itm) (hi : mayI i = true) (hk : mayI k = false) (w : World) : Calls Try.prog 4 #[.int .u64 (x : Int), .agg #[.int .i64 i.base, .int .i64 i.order, .int .i64 i.rights, .int .i64 i.off, .bool i.grant], .agg #[.int .i64 k.base, .int .i64 k.order, .int .i64 k.rights, .int .i64 k.off, .bool k.grant]] w fun e w' => e = .returned (.bool true) ∧ Below w.heap.size w w' := by
  have HX := Lib.hid hx
  obtain ⟨cx, hcx⟩ : ∃ cx, codeX i = cx := ⟨_, rfl⟩
  obtain ⟨ck, hck⟩ : ∃ ck, codeX k = ck := ⟨_, rfl⟩
  have HCX := Lib.hid hcx
  have HCK := Lib.hid hck
  have HI := Lib.hid hi
  have HCL : Hid (cx < 18446744073709551616) := Lib.hid (by rw [← hcx]; exact (codeX_lt i).1)
  have HC32 : Hid ((cx : Int) < 4294967296) := Lib.hid (by have := (codeX_lt i).2; rw [hcx] at this; omega)
  have HIO : Hid (itemOk cx = true) := Lib.hid (by rw [← hcx]; exact ok_code i hi)
  have HIX : Hid (itemX cx = i) := Lib.hid (by rw [← hcx]; exact item_code i hi)
  have HK := Lib.hid hk
  clear hx hcx hck hi hk
  have V1 := Lib.hid ((VarK.new (W := w) (w := w) #[.int .i64 i.base, .int .i64 i.order, .int .i64 i.rights, .int .i64 i.off, .bool i.grant] 24 (Below.refl _ _)).alloc (.cells #[.int .i64 k.base, .int .i64 k.order, .int .i64 k.rights, .int .i64 k.off, .bool k.grant] 24))
  have V2 : Hid (VarK w ((w.alloc (.cells #[.int .i64 i.base, .int .i64 i.order, .int .i64 i.rights, .int .i64 i.off, .bool i.grant] 24)).alloc (.cells #[.int .i64 k.base, .int .i64 k.order, .int .i64 k.rights, .int .i64 k.off, .bool k.grant] 24)) (w.heap.size + 1) #[.int .i64 k.base, .int .i64 k.order, .int .i64 k.rights, .int .i64 k.off, .bool k.grant] 24) := Lib.hid (by
    have := VarK.new (W := w) (w := w.alloc (.cells #[.int .i64 i.base, .int .i64 i.order, .int .i64 i.rights, .int .i64 i.off, .bool i.grant] 24)) #[.int .i64 k.base, .int .i64 k.order, .int .i64 k.rights, .int .i64 k.off, .bool k.grant] 24 ((Below.refl _ _).alloc (Nat.le_refl _) _)
    rwa [World.size_alloc] at this)
  go_enter Try.func4, Try.ntmps4
  go_wp2_with fail
  refine (alive_any _).mono ?_
  rintro e w1 ⟨rfl, hb1⟩
  obtain ⟨gi, hgi⟩ : ∃ gi, gi = w.heap.size := ⟨_, rfl⟩
  have U1 := Lib.hid (V1.out.below hb1)
  have U2 := Lib.hid (V2.out.below hb1)
  rw [← hgi] at U1 U2 ⊢
  clear hb1 V1 V2 hgi
  obtain ⟨c0, c1, c2, c3, c4⟩ := item_cells U1.out.row
  go_wp2_with fail
  refine (code_u i cx true HCX.out HI.out _).mono ?_
  rintro e w2 ⟨rfl, hb2⟩
  have X1 := Lib.hid (U1.out.below hb2)
  have X2 := Lib.hid (U2.out.below hb2)
  clear hb2 c0 c1 c2 c3 c4 U1 U2
  obtain ⟨c0, c1, c2, c3, c4⟩ := item_cells X2.out.row
  go_wp2_with fail
  refine (code_u k ck false HCK.out HK.out _).mono ?_
  rintro e w3 ⟨rfl, hb3⟩
  have Y1 := Lib.hid (X1.out.below hb3)
  have Y2 := Lib.hid (X2.out.below hb3)
  clear hb3 c0 c1 c2 c3 c4 X1 X2
  go_wp2_with fail
  refine (item_u cx HCL.out i true HIX.out HIO.out _).mono ?_
  rintro e w4 ⟨rfl, hb4⟩
  obtain ⟨g1, hg1⟩ : ∃ g1, g1 = w4.heap.size := ⟨_, rfl⟩
  have Z1 : Hid (VarK w (w4.alloc (.cells #[.int .i64 i.base, .int .i64 i.order, .int .i64 i.rights, .int .i64 i.off, .bool i.grant] 24)) g1 #[.int .i64 i.base, .int .i64 i.order, .int .i64 i.rights, .int .i64 i.off, .bool i.grant] 24) := Lib.hid (by rw [hg1]; exact VarK.new (W := w) #[.int .i64 i.base, .int .i64 i.order, .int .i64 i.rights, .int .i64 i.off, .bool i.grant] 24 ((Y1.out.below hb4).way))
  have Z2 := Lib.hid ((Y1.out.below hb4).alloc (.cells #[.int .i64 i.base, .int .i64 i.order, .int .i64 i.rights, .int .i64 i.off, .bool i.grant] 24))
  have Z3 := Lib.hid ((Y2.out.below hb4).alloc (.cells #[.int .i64 i.base, .int .i64 i.order, .int .i64 i.rights, .int .i64 i.off, .bool i.grant] 24))
  obtain ⟨w5, hw5⟩ : ∃ w5, w5 = w4.alloc (.cells #[.int .i64 i.base, .int .i64 i.order, .int .i64 i.rights, .int .i64 i.off, .bool i.grant] 24) := ⟨_, rfl⟩
  rw [← hw5] at Z1 Z2 Z3
  obtain ⟨a0, a1, a2, a3, a4⟩ := item_cells Z1.out.row
  obtain ⟨b0, b1, b2, b3, b4⟩ := item_cells Z2.out.row
  obtain ⟨d0, d1, d2, d3, d4⟩ := item_cells Z3.out.row
  rw [hw5, hg1] at a0 a1 a2 a3 a4
  rw [hw5] at b0 b1 b2 b3 b4 d0 d1 d2 d3 d4
  clear hb4 Y1 Y2
  have rq := run_neq_item i i
  rw [eqI_self] at rq
  have q3 : decide ((4294967296 : Int) ≤ (cx : Int)) = false := decide_eq_false (by have := HC32.out; omega)
  have Zw : Hid (Below w.heap.size w (w4.alloc (.cells #[.int .i64 i.base, .int .i64 i.order, .int .i64 i.rights, .int .i64 i.off, .bool i.grant] 24))) := Lib.hid (by rw [← hw5]; exact Z1.out.way)
  clear hw5 hg1 Z1 Z2 Z3
  by_cases hxo : itemOk x = true
  · have HXO := Lib.hid hxo
    obtain ⟨j, hj⟩ : ∃ j, itemX x = j := ⟨_, rfl⟩
    have HJ := Lib.hid hj
    have HJC : Hid (codeX j = x) := Lib.hid (by rw [← hj]; exact code_item x hxo)
    have HJM : Hid (mayI j = true) := Lib.hid (by rw [← hj]; exact may_item x hxo)
    clear hxo hj
    go_wp2_with fail
    refine (item_u x HX.out j true HJ.out HXO.out _).mono ?_
    rintro e w6 ⟨rfl, hb6⟩
    have Bw : Hid (Below w.heap.size w (w6.alloc (.cells #[.int .i64 j.base, .int .i64 j.order, .int .i64 j.rights, .int .i64 j.off, .bool j.grant] 24))) := Lib.hid (((Zw.out.trans (hb6.mono Zw.out.size))).alloc (Nat.le_trans Zw.out.size hb6.size) _)
    clear hb6
    go_wp2_with fail
    refine (code_u j x true HJC.out HJM.out _).mono ?_
    rintro e w7 ⟨rfl, hb7⟩
    have Bw7 : Hid (Below w.heap.size w w7) := Lib.hid (Bw.out.trans (hb7.mono Bw.out.size))
    clear hb7
    go_wp2
    go_ret
    exact ⟨rfl, Bw7.out⟩
  · have hxo' : itemOk x = false := by simpa using hxo
    have HXO := Lib.hid hxo'
    have hne : ((cx : Int) == (x : Int)) = false := by
      have : cx ≠ x := fun e => by
        have := HIO.out
        rw [e, HXO.out] at this
        cases this
      simp; omega
    clear hxo hxo'
    go_wp2_with fail
    refine (item_u x HX.out ⟨0, 0, 0, 0, false⟩ false (item_none x HXO.out) HXO.out _).mono ?_
    rintro e w6 ⟨rfl, hb6⟩
    have Bw : Hid (Below w.heap.size w w6) := Lib.hid ((Zw.out.trans (hb6.mono Zw.out.size)))
    clear hb6
    go_wp2
    go_ret
    exact ⟨rfl, Bw.out.alloc Bw.out.size _⟩
theorem itemBack_any (x : Nat) (hx : x < 18446744073709551616) (i k : Itm) (w : World) : Calls Try.prog 4 #[.int .u64 (x : Int), .agg #[.int .i64 i.base, .int .i64 i.order, .int .i64 i.rights, .int .i64 i.off, .bool i.grant], .agg #[.int .i64 k.base, .int .i64 k.order, .int .i64 k.rights, .int .i64 k.off, .bool k.grant]] w fun e w' => e = .returned (.bool true) ∧ Below w.heap.size w w' := by
  cases hi : mayI i
  · exact back_no x hx i k hi w
  · cases hk : mayI k
    · exact back_other x hx i k hi hk w
    · by_cases he : codeX i = codeX k
      · exact back_same x hx i k hi hk he w
      · exact back_apart x hx i k hi hk he w
end Go.Proofs.Ytgacfgofpanchaa
