/- The walk of CallCuts: of a call whose lists are read, true. Condition: the table of Asks holds what its text says. -/
import Derived.Test.YtmjkljgccaipoaaDoorE4
namespace Go.Proofs.YtmjkljgccaipoaaDoor
open Go.RowKit

theorem decC_more (c : Cal) (h : mayC c = true) (m : Nat) : decC (encC c ++ [m]) = none := by
  cases hd : decC (encC c ++ [m]) with
  | none => rfl
  | some d =>
    exfalso
    have h1 := decC_encC c h
    simp only [encC, h, if_true, List.cons_append] at hd h1
    have := decC_cut _ _ _ _ _ hd h1
    simp at this
theorem decC_less (c : Cal) (h : mayC c = true) (k : Nat) (hk : k < (encC c).length) : decC ((encC c).take k) = none := by
  cases k with
  | zero => rfl
  | succ k =>
    cases hd : decC ((encC c).take (k + 1)) with
    | none => rfl
    | some d =>
      exfalso
      have h1 := decC_encC c h
      simp only [encC, h, if_true, List.take_succ_cons] at hd h1
      simp only [encC, h, if_true, List.length_cons] at hk
      have := decC_cut _ _ _ _ _ hd h1
      rw [List.length_take] at this
      simp only [List.length_cons] at this
      omega

set_option maxRecDepth 100000 in
set_option maxHeartbeats 3200000 in
theorem cuts_no (c : Cal) (A B : Option Addr) (cw ci m n : Nat) (w : World) (hT : TabAt w) (hc : CallR w c A B) (h0 : mayC c = false) :
    Calls Tryd.prog 7 #[.agg #[.int .i64 c.op, .int .i64 c.slot, .int .i64 c.a, .int .i64 c.b, .int .i64 c.c, .bool c.flag, .int .u64 (c.x : Int), .slice A c.words.length cw, .slice B c.items.length ci], .int .u64 (m : Int), .int .u8 (n : Int)] w
      fun e w' => e = .returned (.bool true) ∧ Below w.heap.size w w' := by
  have Hst0 := Lib.hid (St1.new (cw := cw) (ci := ci) hc)
  have HT := Lib.hid (hT.below hT.lt Hst0.out.1)
  clear hc hT
  have E0 := Lib.hid h0
  have E1 : Hid (encC c = []) := Lib.hid (by simp [encC, h0])
  clear h0
  go_enter Tryd.func7, Tryd.ntmps7
  go_wp2_with fail
  refine (alive_any _ HT.out).mono ?_
  rintro e w1 ⟨rfl, hb1⟩
  have Hst1 := Lib.hid (Hst0.out.step hb1)
  clear hb1 Hst0
  obtain ⟨c0, c1, c2, c3, c4, c5, c6, c7, c8⟩ := Hst1.out.cells
  go_wp2_with fail
  refine (enc_lit c [] E1.out 0 rfl _ _ _ _ _ Hst1.out.r).mono ?_
  rintro e w2 ⟨Z, z, rfl, _, _, hb2⟩
  have Hst2 := Lib.hid (Hst1.out.step hb2)
  clear hb2 Hst1 c0 c1 c2 c3 c4 c5 c6 c7 c8
  obtain ⟨c0, c1, c2, c3, c4, c5, c6, c7, c8⟩ := Hst2.out.cells
  go_wp2_with fail
  refine (may_lit c false E0.out _ _ _ _ _ Hst2.out.r).mono ?_
  rintro e w3 ⟨rfl, hb3⟩
  have Hst3 := Lib.hid (Hst2.out.step hb3)
  clear hb3 Hst2 c0 c1 c2 c3 c4 c5 c6 c7 c8
  go_wp2_with fail
  go_ret
  exact ⟨rfl, Hst3.out.1⟩

set_option maxRecDepth 100000 in
set_option maxHeartbeats 3200000 in
theorem cuts_yes (c : Cal) (A B : Option Addr) (cw ci m n : Nat) (w : World) (hT : TabAt w) (hc : CallR w c A B) (hB : CalB c) (hm : m < 18446744073709551616) (hn : n < 256) (h0 : mayC c = true) :
    Calls Tryd.prog 7 #[.agg #[.int .i64 c.op, .int .i64 c.slot, .int .i64 c.a, .int .i64 c.b, .int .i64 c.c, .bool c.flag, .int .u64 (c.x : Int), .slice A c.words.length cw, .slice B c.items.length ci], .int .u64 (m : Int), .int .u8 (n : Int)] w
      fun e w' => e = .returned (.bool true) ∧ Below w.heap.size w w' := by
  obtain ⟨i0, hi0, hz0, hz1, hz2⟩ := info_parts info_u64
  have Hst0 := Lib.hid (St1.new (cw := cw) (ci := ci) hc)
  have HT := Lib.hid (hT.below hT.lt Hst0.out.1)
  clear hc hT
  obtain ⟨nl, hnl⟩ : ∃ nl, (encC c).length = nl := ⟨_, rfl⟩
  have hb12 : 2 ≤ nl ∧ nl ≤ 12 := by
    have := encC_length c h0
    have := ((mayC_iff c).1 h0).2
    omega
  obtain ⟨k, hk⟩ : ∃ k, k = n % nl := ⟨_, rfl⟩
  have hkl : k < nl := by rw [hk]; exact Nat.mod_lt _ (by omega)
  have D1 := Lib.hid (decC_more c h0 m)
  have D2 := Lib.hid (decC_less c h0 k (by omega))
  have X1 : Hid (∀ x ∈ encC c ++ [m], x < 18446744073709551616) := Lib.hid (fun x hx => by
    rcases List.mem_append.1 hx with hx | hx
    · exact encC_lt c hB x hx
    · rw [List.mem_singleton.1 hx]; exact hm)
  have X2 : Hid (∀ x ∈ (encC c).take k, x < 18446744073709551616) := Lib.hid (fun x hx => encC_lt c hB x (List.mem_of_mem_take hx))
  have L1 : Hid ((encC c ++ [m]).length = nl + 1) := Lib.hid (by simp [hnl])
  have L2 : Hid (((encC c).take k).length = k) := Lib.hid (by rw [List.length_take]; omega)
  have Hnl := Lib.hid hnl
  have g0 : ((nl : Int) == 0) = false := by simp; omega
  have g1 : ¬ (nl : Int) = 0 := by omega
  have g2 : Int.tmod (n : Int) (nl : Int) = (k : Int) := by rw [hk, Int.tmod_eq_emod_of_nonneg (by omega)]; simp
  have g3 : IntKind.i64.wrap (n : Int) = (n : Int) := by rw [IntKind.wrap_i64]; omega
  have g4 : wrap64 (n : Int) = (n : Int) := by unfold wrap64; omega
  have g5 : wrap64 (k : Int) = (k : Int) := by unfold wrap64; omega
  have H12 := Lib.hid hb12
  clear h0 hnl hB hk hm hn hb12
  go_enter Tryd.func7, Tryd.ntmps7
  go_wp2_with fail
  refine (alive_any _ HT.out).mono ?_
  rintro e w1 ⟨rfl, hb1⟩
  have Hst1 := Lib.hid (Hst0.out.step hb1)
  clear hb1 Hst0
  obtain ⟨c0, c1, c2, c3, c4, c5, c6, c7, c8⟩ := Hst1.out.cells
  go_wp2_with fail
  refine (enc_lit c _ rfl nl Hnl.out _ _ _ _ _ Hst1.out.r).mono ?_
  rintro e w2 ⟨Z, z, rfl, hzl, hz, hb2⟩
  have Hst2 : Hid (StW w w2 Z (encC c)) := Lib.hid ⟨Hst1.out.1.trans (hb2.mono Hst1.out.1.size), hz⟩
  have hkz : (k : Int) ≤ (z : Int) := by omega
  clear hb2 Hst1 hz c0 c1 c2 c3 c4 c5 c6 c7 c8
  go_wp2_with (first | (at_builtin; refine wpList_app _ rfl (.tmp 23) (.tmp 24) 23 rfl w2.heap.size 22 i0 _ 1 8 Tryd.underlying23 hi0 hz0 hz1 hz2 rfl (by omega) _ 0 0 [] rfl (World.ownsRow_lit _ #[] 0 (Nat.le_refl _) (by decide) rfl) _ _ _ (u64s (encC c)) rfl (by rw [u64s_length, Hnl.out]; omega) (Hst2.out.alloc _).2 (u64s_one _) (by have := H12.out; unfold maxLen; omega) (by have := H12.out; omega) (by simp) ?_; intro A3 k3 w3 hown3 hgr3 hb3; have hown3' : w3.ownsRow w2.heap.size 22 1 (.slice A3 nl k3) nl (u64s (encC c)) := by simpa using hown3) | (at_builtin; refine wpList_app _ rfl (.tmp 25) (.tmp 27) 23 rfl w2.heap.size 22 i0 _ 1 8 Tryd.underlying23 hi0 hz0 hz1 hz2 rfl (by omega) _ _ _ _ rfl (hown3'.alloc _) _ 1 1 (u64s [m]) rfl rfl (SlR_new _ _ _) (u64s_one _) (by have := H12.out; unfold maxLen; omega) (by have := H12.out; omega) (by have := hb3.size; simp at this ⊢; omega) ?_; intro A4 k4 w4 hown4 hgr4 hb4))
  have hb24 : Below w2.heap.size w2 w4 := (((Below.refl _ _).alloc (Nat.le_refl _) _).trans hb3).trans (((Below.refl _ _).alloc (by have := hb3.size; simp at this; omega) _).trans hb4)
  have Hst4 := Lib.hid (Hst2.out.step hb24)
  have hA4 : SlR w4 A4 (u64s (encC c ++ [m])) := by rw [u64s_append]; exact ownsRow_sl hown4
  have HA4 := Lib.hid hA4
  have hk4 := ownsRow_le hown4
  have L4 : Hid (nl + 1 ≤ k4 ∧ nl + 1 ≤ 140737488351232 ∧ k ≤ z ∧ k ≤ 140737488351232) := Lib.hid (by have := H12.out; omega)
  clear hown3 hgr3 hb3 hown3' hown4 hgr4 hb4 hb24 hA4 hk4 Hst2
  refine (dec_none _ D1.out (nl + 1) L1.out _ _ L4.out.1 L4.out.2.1 X1.out _ HA4.out).mono ?_
  rintro e w5 ⟨D, dw, E, di, rfl, hb5⟩
  have Hst5 := Lib.hid (Hst4.out.step hb5)
  clear hb5 Hst4 HA4
  have Hst6 := Lib.hid (Hst5.out.alloc (.cells #[.int .i64 0, .int .i64 0, .int .i64 0, .int .i64 0, .int .i64 0, .bool false, .int .u64 0, .slice D 0 dw, .slice E 0 di] 26))
  clear Hst5
  go_wp2_with fail
  refine (dec_none _ D2.out k L2.out _ _ L4.out.2.2.1 L4.out.2.2.2 X2.out _ (by have := Hst6.out.2.take k; simpa [u64s] using this)).mono ?_
  rintro e w7 ⟨D', dw', E', di', rfl, hb7⟩
  have Hst7 := Lib.hid (Hst6.out.step hb7)
  clear hb7 Hst6
  go_wp2_with fail
  go_ret
  exact ⟨ret_bool (by simp), (Hst7.out.alloc _).1⟩

theorem cuts_any (c : Cal) (A B : Option Addr) (cw ci m n : Nat) (w : World) (hT : TabAt w) (hc : CallR w c A B) (hB : CalB c) (hm : m < 18446744073709551616) (hn : n < 256) :
    Calls Tryd.prog 7 #[.agg #[.int .i64 c.op, .int .i64 c.slot, .int .i64 c.a, .int .i64 c.b, .int .i64 c.c, .bool c.flag, .int .u64 (c.x : Int), .slice A c.words.length cw, .slice B c.items.length ci], .int .u64 (m : Int), .int .u8 (n : Int)] w
      fun e w' => e = .returned (.bool true) ∧ Below w.heap.size w w' := by
  cases h0 : mayC c
  · exact cuts_no c A B cw ci m n w hT hc h0
  · exact cuts_yes c A B cw ci m n w hT hc hB hm hn h0
end Go.Proofs.YtmjkljgccaipoaaDoor
