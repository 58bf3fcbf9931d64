/- The walk of CallBits: of a call whose lists are read, true. Condition: the table of Asks holds what its text says. -/
import Derived.Test.YtmjkljgccaipoaaDoorE4
namespace Go.Proofs.YtmjkljgccaipoaaDoor
open Go.RowKit

theorem flip_bit (x b : Nat) (hb : b < 64) (hx : x < 18446744073709551616) : x ^^^ 2 ^ b < 18446744073709551616 ∧ x ^^^ 2 ^ b ≠ x ∧ (x.testBit b = false → (x ^^^ 2 ^ b).testBit b = true) := by
  refine ⟨?_, ?_, ?_⟩
  · have : x ^^^ 2 ^ b < 2 ^ 64 := Nat.xor_lt_two_pow (by omega) (Nat.pow_lt_pow_right (by omega) hb)
    omega
  · intro h
    have h1 : (x ^^^ 2 ^ b).testBit b = x.testBit b := by rw [h]
    rw [Nat.testBit_xor, Nat.testBit_two_pow_self] at h1
    cases hx : x.testBit b <;> rw [hx] at h1 <;> cases h1
  · intro h
    rw [Nat.testBit_xor, h, Nat.testBit_two_pow_self]; rfl
theorem flip_none (c : Cal) (h : mayC c = true) (b : Nat) (hb : b < 64) (h2 : b = 23 ∨ 60 < b) (t : List Nat) : decC ((headC c ^^^ 2 ^ b) :: t) = none := by
  cases hd : decC ((headC c ^^^ 2 ^ b) :: t) with
  | none => rfl
  | some d =>
    exfalso
    obtain ⟨m, e⟩ := encC_decC _ _ hd
    have q : headC d = headC c ^^^ 2 ^ b := by simp only [encC, m, if_true, List.cons.injEq] at e; exact e.1
    have ⟨c1, c2⟩ := headC_lt c h
    have ⟨d1, d2⟩ := headC_lt d m
    have hf := (flip_bit (headC c) b hb (by omega)).2.2
    rw [← q] at hf
    rcases h2 with rfl | h2
    · have e1 : (headC c).testBit 23 = false := by rw [Nat.testBit_eq_decide_div_mod_eq]; simp; omega
      have e2 : (headC d).testBit 23 = false := by rw [Nat.testBit_eq_decide_div_mod_eq]; simp; omega
      rw [hf e1] at e2; cases e2
    · have p : 2 ^ 61 ≤ 2 ^ b := Nat.pow_le_pow_right (by omega) (by omega)
      have e1 : (headC c).testBit b = false := Nat.testBit_lt_two_pow (by omega)
      have e2 : (headC d).testBit b = false := Nat.testBit_lt_two_pow (by omega)
      rw [hf e1] at e2; cases e2
theorem flip_apart (c d : Cal) (b : Nat) (hb : b < 64) (hx : headC c < 18446744073709551616) (t : List Nat) (hd : decC ((headC c ^^^ 2 ^ b) :: t) = some d) : sameC c d = false := by
  cases hs : sameC c d with
  | false => rfl
  | true =>
    exfalso
    have := (sameC_iff c d).1 hs
    subst this
    obtain ⟨m, e⟩ := encC_decC _ _ hd
    have q : headC c = headC c ^^^ 2 ^ b := by simp only [encC, m, if_true, List.cons.injEq] at e; exact e.1
    exact (flip_bit (headC c) b hb hx).2.1 q.symm

theorem flip_val (x b : Nat) (hb : b < 64) (hx : x < 18446744073709551616) : bits .xor .u64 (x : Int) (IntKind.u64.wrap (2 ^ b)) = ((x ^^^ 2 ^ b : Nat) : Int) := by
  have h1 : (2 : Nat) ^ b < 2 ^ 64 := Nat.pow_lt_pow_right (by omega) hb
  have h2 : (2 : Nat) ^ 64 = 18446744073709551616 := by decide
  have e0 : (2 : Int) ^ b = ((2 ^ b : Nat) : Int) := by push_cast; rfl
  rw [e0]
  generalize 2 ^ b = P at *
  have e : IntKind.u64.wrap (P : Int) = (P : Int) := by rw [IntKind.wrap_u64]; omega
  rw [e, u64_xor_nat _ _ hx (by omega)]
theorem SlR_set0 {w : World} {A : Option Addr} {x y : Nat} {t : List Nat} (h : SlR w A (u64s (x :: t))) {g : Nat} (hA : A = some ⟨g, 0, none⟩) : SlR (w.setCell ⟨g, 0, none⟩ (.int .u64 (y : Int))) A (u64s (y :: t)) := fun _ => by
  obtain ⟨b, off, e, hlt, hc⟩ := h (by simp [u64s])
  rw [hA] at e
  cases e
  refine ⟨g, 0, hA, by simpa [World.setCell] using hlt, fun j u hu => ?_⟩
  cases j with
  | zero =>
    simp only [u64s, List.map_cons, List.getElem?_cons_zero, Option.some.injEq] at hu
    subst hu
    have h0 : w.cell? ⟨g, 0, none⟩ = some (.int .u64 (x : Int)) := hc 0 (.int .u64 (x : Int)) (by simp [u64s])
    exact World.cell?_setCell_same' w ⟨g, 0, none⟩ _ (by rw [h0]; rfl)
  | succ j =>
    rw [World.cell?_setCell_other _ _ _ _ (by simp)]
    exact hc (j + 1) u (by simpa [u64s] using hu)
theorem owns_addr {w : World} {base : Nat} {e : TypeId} {A : Option Addr} {n cap x : Nat} {t : List Nat} (h : w.ownsRow base e 1 (.slice A n cap) n (u64s (x :: t))) :
    ∃ g, A = some ⟨g, 0, none⟩ ∧ base ≤ g ∧ w.frozen? ⟨g, 0, none⟩ = false ∧ g < w.heap.size ∧ w.cell? ⟨g, 0, none⟩ = some (.int .u64 (x : Int)) := by
  have hs := ownsRow_sl h
  have hl := h.1
  rcases h.2 with ⟨_, h0⟩ | ⟨g, cap', cur, hv, hg, hh, _⟩
  · subst h0; simp [u64s] at hl
  · injection hv with hA
    obtain ⟨b, off, e', hlt, hc⟩ := hs (by simp [u64s])
    rw [hA] at e'
    cases e'
    exact ⟨g, hA, hg, frozen_of_row w g 0 _ _ hh, hlt, hc 0 _ (by simp [u64s])⟩

set_option maxRecDepth 100000 in
set_option maxHeartbeats 3200000 in
theorem bits_no (c : Cal) (A B : Option Addr) (cw ci n : Nat) (w : World) (hT : TabAt w) (hc : CallR w c A B) (h0 : mayC c = false) :
    Calls Tryd.prog 10 #[.agg #[.int .i64 c.op, .int .i64 c.slot, .int .i64 c.a, .int .i64 c.b, .int .i64 c.c, .bool c.flag, .int .u64 (c.x : Int), .slice A c.words.length cw, .slice B c.items.length ci], .int .u8 (n : Int)] w
      fun e w' => e = .returned (.bool true) ∧ Below w.heap.size w w' := by
  have Hst0 := Lib.hid (St1.new (cw := cw) (ci := ci) hc)
  have HT := Lib.hid (hT.below hT.lt Hst0.out.1)
  clear hc hT
  have E0 := Lib.hid h0
  have E1 : Hid (encC c = []) := Lib.hid (by simp [encC, h0])
  clear h0
  go_enter Tryd.func10, Tryd.ntmps10
  go_wp2_with fail
  refine (alive_any _ HT.out).mono ?_
  rintro e w1 ⟨rfl, hb1⟩
  have Hst1 := Lib.hid (Hst0.out.step hb1)
  clear hb1 Hst0
  obtain ⟨c0, c1, c2, c3, c4, c5, c6, c7, c8⟩ := Hst1.out.cells
  go_wp2_with fail
  refine (enc_lit c [] E1.out 0 rfl _ _ _ _ _ Hst1.out.r).mono ?_
  rintro e w2 ⟨Z, z, rfl, _, _, hb2⟩
  have Hst2 := Lib.hid (Hst1.out.step hb2)
  clear hb2 Hst1 c0 c1 c2 c3 c4 c5 c6 c7 c8
  obtain ⟨c0, c1, c2, c3, c4, c5, c6, c7, c8⟩ := Hst2.out.cells
  go_wp2_with fail
  refine (may_lit c false E0.out _ _ _ _ _ Hst2.out.r).mono ?_
  rintro e w3 ⟨rfl, hb3⟩
  have Hst3 := Lib.hid (Hst2.out.step hb3)
  clear hb3 Hst2 c0 c1 c2 c3 c4 c5 c6 c7 c8
  go_wp2_with fail
  go_ret
  exact ⟨rfl, Hst3.out.1⟩


set_option maxRecDepth 100000 in
set_option maxHeartbeats 3200000 in
theorem bits_yes (c : Cal) (A B : Option Addr) (cw ci n : Nat) (w : World) (hT : TabAt w) (hc : CallR w c A B) (hB : CalB c) (hn : n < 256) (h0 : mayC c = true) :
    Calls Tryd.prog 10 #[.agg #[.int .i64 c.op, .int .i64 c.slot, .int .i64 c.a, .int .i64 c.b, .int .i64 c.c, .bool c.flag, .int .u64 (c.x : Int), .slice A c.words.length cw, .slice B c.items.length ci], .int .u8 (n : Int)] w
      fun e w' => e = .returned (.bool true) ∧ Below w.heap.size w w' := by
  obtain ⟨i0, hi0, hz0, hz1, hz2⟩ := info_parts info_u64
  have Hst0 := Lib.hid (St1.new (cw := cw) (ci := ci) hc)
  have HT := Lib.hid (hT.below hT.lt Hst0.out.1)
  clear hc hT
  obtain ⟨nl, hnl⟩ : ∃ nl, (encC c).length = nl := ⟨_, rfl⟩
  have hb12 : 2 ≤ nl ∧ nl ≤ 12 := by
    have := encC_length c h0
    have := ((mayC_iff c).1 h0).2
    omega
  obtain ⟨t, ht⟩ : ∃ t, encC c = headC c :: t := ⟨c.x :: (c.words ++ c.items.map codeI), by simp only [encC, h0, if_true]⟩
  have Ht := Lib.hid ht
  have Hm := Lib.hid h0
  have Hnl := Lib.hid hnl
  have HB := Lib.hid hB
  have H12 := Lib.hid hb12
  have g0 : ((nl : Int) == 0) = false := by simp; omega
  have g1 : (0 : Int) < (nl : Int) := by omega
  clear h0 hnl hB hb12 ht
  go_enter Tryd.func10, Tryd.ntmps10
  go_wp2_with fail
  refine (alive_any _ HT.out).mono ?_
  rintro e w1 ⟨rfl, hb1⟩
  have Hst1 := Lib.hid (Hst0.out.step hb1)
  clear hb1 Hst0
  obtain ⟨c0, c1, c2, c3, c4, c5, c6, c7, c8⟩ := Hst1.out.cells
  go_wp2_with fail
  refine (enc_lit c _ rfl nl Hnl.out _ _ _ _ _ Hst1.out.r).mono ?_
  rintro e w2 ⟨Z, z, rfl, hzl, hz, hb2⟩
  have Hst2 := Lib.hid (Hst1.out.step hb2)
  have Hz := Lib.hid hz
  clear hb2 Hst1 hz c0 c1 c2 c3 c4 c5 c6 c7 c8
  go_wp2_with (first | (at_builtin; refine wpList_app _ rfl (.tmp 19) (.tmp 20) 23 rfl w2.heap.size 22 i0 _ 1 8 Tryd.underlying23 hi0 hz0 hz1 hz2 rfl (by omega) _ 0 0 [] rfl (World.ownsRow_lit _ #[] 0 (Nat.le_refl _) (by decide) rfl) _ _ _ (u64s (encC c)) rfl (by rw [u64s_length, Hnl.out]; omega) (Hz.out.below ((Below.refl _ _).alloc (Nat.le_refl _) _)) (u64s_one _) (by have := H12.out; unfold maxLen; omega) (by have := H12.out; omega) (by simp) ?_; intro A3 k3 w3 hown3 hgr3 hb3; have hown3' : w3.ownsRow w2.heap.size 22 1 (.slice A3 nl k3) nl (u64s (headC c :: t)) := (by rw [← Ht.out]; simpa using hown3); obtain ⟨g, rfl, hg, hfz, hlt, v0⟩ := owns_addr hown3'))
  have hx64 : headC c < 18446744073709551616 := by have := (headC_lt c Hm.out).1; omega
  have hv := flip_val (headC c) (n % 64) (Nat.mod_lt _ (by omega)) hx64
  have hS : SlR (w3.setCell ⟨g, 0, none⟩ (.int .u64 ((headC c ^^^ 2 ^ (n % 64) : Nat) : Int))) (some ⟨g, 0, none⟩) (u64s ((headC c ^^^ 2 ^ (n % 64)) :: t)) := SlR_set0 (ownsRow_sl hown3') rfl
  have hst := Hst2.out.step (setAt (i := 0) (((Below.refl _ _).alloc (Nat.le_refl _) _).trans hb3) hg (.int .u64 ((headC c ^^^ 2 ^ (n % 64) : Nat) : Int)))
  have hkk := ownsRow_le hown3'
  rw [hv]
  clear hown3 hgr3 hb3 hown3' hfz hlt v0 Hst2 Hz hv hg
  generalize w3.setCell ⟨g, 0, none⟩ (.int .u64 ((headC c ^^^ 2 ^ (n % 64) : Nat) : Int)) = w4 at *
  have HS := Lib.hid hS
  have Hst4 := Lib.hid hst
  have X1 : Hid (∀ x ∈ (headC c ^^^ 2 ^ (n % 64)) :: t, x < 18446744073709551616) := Lib.hid (fun x hx => by
    rcases List.mem_cons.1 hx with rfl | hx
    · exact (flip_bit (headC c) (n % 64) (Nat.mod_lt _ (by omega)) hx64).1
    · exact encC_lt c HB.out x (by rw [Ht.out]; simp [hx]))
  have L1 : Hid (((headC c ^^^ 2 ^ (n % 64)) :: t).length = nl) := Lib.hid (by have := Hnl.out; rw [Ht.out] at this; simpa using this)
  have L4 : Hid (nl ≤ k3 ∧ nl ≤ 140737488351232) := Lib.hid ⟨hkk, by have := H12.out; omega⟩
  clear hS hst hkk
  cases hd : decC ((headC c ^^^ 2 ^ (n % 64)) :: t) with
  | none =>
    have D1 := Lib.hid hd
    clear hd
    refine (dec_none _ D1.out nl L1.out _ _ L4.out.1 L4.out.2 X1.out _ HS.out).mono ?_
    rintro e w5 ⟨D, dw, E, di, rfl, hb5⟩
    have Hst5 := Lib.hid (Hst4.out.step hb5)
    clear hb5 Hst4
    go_wp2_with fail
    all_goals go_ret
    all_goals exact ⟨ret_bool (by simp), (Hst5.out.alloc _).1⟩
  | some d =>
    have D1 := Lib.hid hd
    have S1 := Lib.hid (flip_apart c d (n % 64) (Nat.mod_lt _ (by omega)) hx64 t hd)
    have hne : ¬ (n % 64 = 23 ∨ 60 < n % 64) := fun h => by rw [flip_none c Hm.out (n % 64) (Nat.mod_lt _ (by omega)) h t] at hd; cases hd
    have m0 : ¬ (n : Int) % 64 = 23 := by omega
    have m1 : ((n : Int) % 64 == 23) = false := by simp; omega
    have m2 : (n : Int) % 64 ≤ 60 := by omega
    have m3 : decide ((60 : Int) < (n : Int) % 64) = false := by simp; omega
    clear hd hne
    refine (dec_some _ d D1.out nl L1.out _ _ L4.out.1 L4.out.2 X1.out _ HS.out).mono ?_
    rintro e w5 ⟨D, dw, E, di, rfl, hdd, hb5⟩
    have Hst5 := Lib.hid (Hst4.out.step hb5)
    clear hb5 Hst4
    have Hst6 := Lib.hid (Hst5.out.alloc (.cells #[.int .i64 d.op, .int .i64 d.slot, .int .i64 d.a, .int .i64 d.b, .int .i64 d.c, .bool d.flag, .int .u64 (d.x : Int), .slice D d.words.length dw, .slice E d.items.length di] 26))
    have Hd6 := Lib.hid (CAt.new (cw := dw) (ci := di) hdd)
    obtain ⟨c0, c1, c2, c3, c4, c5, c6, c7, c8⟩ := Hst6.out.cells
    obtain ⟨d0, d1, d2, d3, d4, d5, d6, d7, d8⟩ := Hd6.out.cells
    clear Hst5 hdd
    go_wp2_with fail
    refine (same_lit c d false S1.out _ _ _ _ _ _ _ _ _ Hst6.out.r Hd6.out.2).mono ?_
    rintro e w6 ⟨rfl, hb6⟩
    have Hst7 := Lib.hid (Hst6.out.step hb6)
    clear hb6 Hst6 Hd6 d0 d1 d2 d3 d4 d5 d6 d7 d8 c0 c1 c2 c3 c4 c5 c6 c7 c8
    go_wp2_with fail
    go_ret
    exact ⟨ret_bool (by simp), Hst7.out.1⟩

theorem bits_any (c : Cal) (A B : Option Addr) (cw ci n : Nat) (w : World) (hT : TabAt w) (hc : CallR w c A B) (hB : CalB c) (hn : n < 256) :
    Calls Tryd.prog 10 #[.agg #[.int .i64 c.op, .int .i64 c.slot, .int .i64 c.a, .int .i64 c.b, .int .i64 c.c, .bool c.flag, .int .u64 (c.x : Int), .slice A c.words.length cw, .slice B c.items.length ci], .int .u8 (n : Int)] w
      fun e w' => e = .returned (.bool true) ∧ Below w.heap.size w w' := by
  cases h0 : mayC c
  · exact bits_no c A B cw ci n w hT hc h0
  · exact bits_yes c A B cw ci n w hT hc hB hn h0
end Go.Proofs.YtmjkljgccaipoaaDoor
