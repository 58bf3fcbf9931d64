/- The walk of TableLeaves. Condition: the slots are read, and the tables hold what their texts say. -/
import Derived.Test.YtflkoabgkgegjaaDoorY43
/- The walk of TableLeaves. Condition: the slots are read, and the tables hold what their texts say. -/
namespace Go.Proofs.YtflkoabgkgegjaaDoor
open Go.RowKit Go.Maps

/-- an array of 16 bools -/
def BA (w : World) (ab : Nat) (F : Nat → Bool) : Prop := ∃ cs : Array Value, w.heap[ab]? = some (.cells cs 48 (0, 0)) ∧ cs.size = 16 ∧ ∀ i, i < 16 → cs[i]? = some (.bool (F i))
section
variable {w w' : World} {ab : Nat} {F : Nat → Bool}
theorem BA.cell (h : BA w ab F) {i : Nat} (hi : i < 16) : w.cell? ⟨ab, i, none⟩ = some (.bool (F i)) := by
  obtain ⟨cs, h1, h2, h3⟩ := h
  rw [cell_of_row _ _ _ _ _ _ h1, h3 i hi]
theorem BA.froz (h : BA w ab F) (i : Nat) : w.frozen? ⟨ab, i, none⟩ = false := by
  obtain ⟨cs, h1, h2, h3⟩ := h
  exact frozen_of_row _ _ _ _ _ h1
theorem BA.set (h : BA w ab F) {i : Nat} (hi : i < 16) : BA (w.setCell ⟨ab, i, none⟩ (.bool true)) ab (fun j => F j || i == j) := by
  obtain ⟨cs, h1, h2, h3⟩ := h
  refine ⟨cs.setIfInBounds i (.bool true), heap_setCell_same w ab i _ _ _ h1, by simp [h2], fun j hj => ?_⟩
  by_cases e : j = i
  · subst e
    simp [h2, hj]
  · rw [Array.getElem?_setIfInBounds_ne (Ne.symm e), h3 j hj]
    simp [Ne.symm e]
theorem BA.congr {G : Nat → Bool} (h : BA w ab F) (he : ∀ i, i < 16 → G i = F i) : BA w ab G := by
  obtain ⟨cs, h1, h2, h3⟩ := h
  exact ⟨cs, h1, h2, fun i hi => by rw [h3 i hi, he i hi]⟩
theorem HeldT.turn {A : Option Addr} {xs : List Value} {t : TypeId} {g : Nat} {ds : Array Value} {u : TypeId} (h : HeldT t w A xs) (hg : w.grownBy w' (some g)) (hd : w.heap[g]? = some (.cells ds u (0, 0))) (hu : t ≠ u) : HeldT t w' A xs := fun hne => by
  obtain ⟨b, off, cs, h1, h2, h4⟩ := h hne
  exact ⟨b, off, cs, h1, (hg.block _ (blt h2) (fun e => two_types h2 hd hu (by injection e))).trans h2, h4⟩
end
section
variable {W w w' : World} {pb tb qm fb ga gb b : Nat} {c : Nat → Nat} {xb at_ L n : Nat} {l : List Tl} {P : Nat → List Pg} {f : Nat → Nat} {C : Nat} {lf A B : Nat → Nat}
theorem PL.otherB (h : PL W w pb tb qm fb ga gb b c L n l P f C) {x : Nat} {cs : Array Value} (hx : w.heap[x]? = some (.cells cs 48 (0, 0))) (hw : W.heap.size ≤ x) (hg : w.grownBy w' (some x)) : PL W w' pb tb qm fb ga gb b c L n l P f C := by
  have st : ∀ {y : Nat} {ds : Array Value} {u : TypeId}, w.heap[y]? = some (.cells ds u (0, 0)) → u ≠ 48 → w'.heap[y]? = some (.cells ds u (0, 0)) := fun hd ht => (hg.block _ (blt hd) (fun e2 => two_types hd hx ht (by injection e2))).trans hd
  obtain ⟨a1, ⟨ds, a2, a3⟩, a4, a5⟩ := h.ar
  have hm : w'.heap[qm]? = some (qObj fb) := (hg.block _ (by
    have := h.qu.map
    rcases Nat.lt_or_ge qm w.heap.size with q | q
    · exact q
    · rw [Array.getElem?_eq_none q] at this; cases this) (fun e => h.nq hx _ (List.mem_singleton.2 rfl) (by injection e))).trans h.qu.map
  refine ⟨h.fam.otherK hx hw (h.nq hx) (by decide) (by decide) (by decide) (by decide) (by decide) hg, st h.row (by decide), ⟨st h.qu.tree (by decide), hm, st h.qu.fac (by decide)⟩, ⟨st a1 (by decide), ⟨ds, st a2 (by decide), a3⟩, fun i hi => ?_, a5⟩, h.lay, h.le, h.new⟩
  have := a4 i hi
  rw [cell_of_row _ _ _ _ _ _ a2] at this
  rw [cell_of_row _ _ _ _ _ _ (st a2 (by decide)), this]
theorem TS.otherB (h : TS W w pb tb qm fb ga gb b c xb at_ L n l P f C lf A B) {x : Nat} {cs : Array Value} (hx : w.heap[x]? = some (.cells cs 48 (0, 0))) (hw : W.heap.size ≤ x) (hg : w.grownBy w' (some x)) : TS W w' pb tb qm fb ga gb b c xb at_ L n l P f C lf A B :=
  ⟨h.pl.otherB hx hw hg, (hg.block _ (blt h.row) (fun e2 => two_types h.row hx (by decide) (by injection e2))).trans h.row, h.rel, h.pat, h.plf, h.inj, h.ab⟩
end
theorem and15 (D : Int) (h0 : 0 ≤ D) (h1 : D < 16) : bits .and .i64 D 15 = D := by
  have key : ∀ j : Fin 16, bits .and .i64 (j.val : Int) 15 = (j.val : Int) := by decide
  have := key ⟨D.toNat, by omega⟩
  simp only [Int.toNat_of_nonneg h0] at this
  exact this
theorem mem_slotsL {A : Nat → Nat} {S : Int} (h : S ∈ slotsL A 256) : 0 ≤ S ∧ S < 256 := by
  unfold slotsL at h
  obtain ⟨i, hi, rfl⟩ := List.mem_map.1 h
  have := List.mem_range.1 (List.mem_filter.1 hi).1
  omega
set_option maxRecDepth 100000 in
set_option maxHeartbeats 12800000 in
theorem tleaves_law (l more : List Nat) (A A2 : Option Addr) (nl cap n2 cap2 : Nat) (hn : l.length = nl) (hn2 : more.length = n2) (hwf : ∀ x ∈ l, x < 256) (hwf2 : ∀ x ∈ more, x < 256) (w : World) (hZ : TabZ w) (hC : TabC w) (hA : SlR w A (Ar.u8s l)) (hA2 : SlR w A2 (Ar.u8s more)) (h1 : nl ≤ 100) (h2 : n2 ≤ 100) : Calls Tryd.prog 5 #[.slice A nl cap, .slice A2 n2 cap2] w fun e w' => e = .returned (.bool true) ∧ Below w.heap.size w w' := by
  have i1 : ¬ (100 : Int) < (nl : Int) := by omega
  have i2 : ¬ (100 : Int) < (n2 : Int) := by omega
  obtain ⟨ci0, hi0, hz0, hz1, hz2⟩ := info_parts info_int
  have HZ := Lib.hid hZ
  have HC := Lib.hid hC
  have HA := Lib.hid hA
  have HA2 := Lib.hid hA2
  have HN : Hid (l.length = nl ∧ nl ≤ 100 ∧ more.length = n2 ∧ n2 ≤ 100) := Lib.hid ⟨hn, h1, hn2, h2⟩
  have HWF : Hid ((∀ x ∈ l, x < 256) ∧ ∀ x ∈ more, x < 256) := Lib.hid ⟨hwf, hwf2⟩
  clear hZ hC hA hA2 hn hn2 h1 h2 hwf hwf2
  go_enter Tryd.func5, Tryd.ntmps5
  go_wp2_with fail
  refine (alive_any _ HZ.out HC.out).mono ?_
  rintro e w1 ⟨rfl, hb⟩
  have HB := Lib.hid hb
  have HZ1 := Lib.hid (HZ.out.below HZ.out.lt hb)
  have HC1 := Lib.hid (HC.out.below HC.out.lt hb)
  have HA1 : Hid (SlR w1 A (Ar.u8s l) ∧ SlR w1 A2 (Ar.u8s more)) := Lib.hid ⟨HA.out.below hb, HA2.out.below hb⟩
  clear hb
  go_wp2_with fail
  refine (pnew 65536 (by omega) 65536 rfl _ HZ1.out HC1.out).mono ?_
  rintro e w2 ⟨pb, tb, qm, fb, ga, gb, b, c, rfl, h2⟩
  have H2 := Lib.hid h2
  clear h2
  go_wp2_with fail
  refine (pget_first H2.out HZ1.out HC1.out (by decide)).mono ?_
  rintro e w3 ⟨X, a, l3, P3, hX, ha, rfl, h3, k3, hx3, al3⟩
  have H3 := Lib.hid h3
  have AL3 := Lib.hid al3
  have HXA : Hid (X = (a : Int)) := Lib.hid hX
  have HX3 := Lib.hid hx3
  clear h3 k3 al3 hX ha hx3
  go_wp2_with fail
  refine (tat_first a X HXA.out H3.out HC1.out HX3.out).mono ?_
  rintro e w4 ⟨xb, rfl, h4, k4⟩
  have H4 := Lib.hid h4
  clear h4 k4
  go_wp2_with fail
  go_loopw [9] (fun v9 wr => ∃ (k : Nat) (lt : List Tl) (P : Nat → List Pg) (f : Nat → Nat) (C : Nat) (lf A B : Nat → Nat), k ≤ nl ∧ v9 = .int .i64 (k : Int) ∧ TS w1 wr pb tb qm fb ga gb b c xb a 65536 (k + 1) lt P f C lf A B ∧ Alone lt P lf A C) (fun v9 _ => nl - (intOf v9).toNat)
  case atStart => exact ⟨0, _, _, _, _, _, _, _, Nat.zero_le _, rfl, H4.out, AL3.out⟩
  case round =>
    obtain ⟨k, lt, P, f, C, lf, A', B', hk, rfl, h7, al7⟩ := hrel
    clear H4
    have H7 := Lib.hid h7
    have AL7 := Lib.hid al7
    by_cases hlt : k < nl
    · have hkl : k < l.length := by have := HN.out; omega
      have j1 : (k : Int) < (nl : Int) := by omega
      have j0 : (0 : Int) ≤ (k : Int) := by omega
      have zk : IntKind.i64.wrap ((k : Int) + 1) = (k : Int) + 1 := by rw [IntKind.wrap_i64]; have := HN.out; omega
      obtain ⟨s, hs⟩ : ∃ s : Nat, l[k] = s := ⟨_, rfl⟩
      have hs256 : s < 256 := by have := HWF.out.1 l[k] (List.getElem_mem hkl); omega
      obtain ⟨g, off, rfl, hgl, hc⟩ := Ar.SlR.byte (HA1.out.1.below h7.way) hkl
      have d0 := hc k hkl
      rw [hs] at d0
      obtain ⟨S, hS⟩ : ∃ S : Int, (s : Int) = S := ⟨_, rfl⟩
      rw [hS] at d0
      have zs : IntKind.i64.wrap S = S := by rw [IntKind.wrap_i64]; omega
      obtain ⟨V, hV⟩ : ∃ V : Int, ((1 + k : Nat) : Int) = V := ⟨_, rfl⟩
      have zu : IntKind.u64.wrap (k : Int) = (k : Int) := by rw [IntKind.wrap_u64]; have := HN.out; omega
      have zv : IntKind.u64.wrap (1 + (k : Int)) = V := by rw [IntKind.wrap_u64]; have := HN.out; omega
      have HS : Hid (s < 256 ∧ (s : Int) = S ∧ ((1 + k : Nat) : Int) = V ∧ k < nl ∧ nl ≤ 100) := Lib.hid ⟨hs256, hS, hV, hlt, HN.out.2.1⟩
      clear h7 al7 hk hlt hkl hs hs256 hgl hc hS hV
      go_wp2_with fail
      refine (tset_ok H7.out AL7.out (by decide) HZ1.out HC1.out (by have := HS.out; omega) s (1 + k) 0 HS.out.1 (by have := HS.out; omega) (by decide) (by omega) S V 0 HS.out.2.1 HS.out.2.2.1 rfl).mono ?_
      rintro e w9 ⟨rfl, lt9, P9, f9, C9, lf9, h9, al9, k9⟩
      have H9 := Lib.hid h9
      have AL9 := Lib.hid al9
      clear h9 al9 k9 d0
      go_wp2
      go_roundw
      case rel => exact ⟨k + 1, lt9, P9, f9, C9, lf9, _, _, HS.out.2.2.2.1, by go_num, H9.out, AL9.out⟩
      case measure => have := HS.out; (try simp [intOf]) <;> omega
    · have j1 : ¬ ((k : Int) < (nl : Int)) := by omega
      have HKN : Hid (k ≤ 100) := Lib.hid (by have := HN.out; omega)
      obtain ⟨Q, hQ⟩ : ∃ Q : List Int, Q = more.map fun (x : Nat) => (x : Int) := ⟨_, rfl⟩
      have HQ : Hid (Q = (more.map fun (x : Nat) => (x : Int)) ∧ Q.length = n2) := Lib.hid ⟨hQ, by rw [hQ, List.length_map]; exact HN.out.2.2.1⟩
      have HQB : Hid (∀ s ∈ Q, 0 ≤ s ∧ s < 256) := Lib.hid (fun s hs => by
        rw [hQ] at hs
        obtain ⟨x, hx, rfl⟩ := List.mem_map.1 hs
        have := HWF.out.2 x hx
        omega)
      clear h7 al7 hk hlt hQ
      go_wp2_with fail
      rename World => wx
      go_loopw [10, 11] (fun v10 v11 wr => ∃ (i : Nat) (A1 : Option Addr) (k1 : Nat), v11 = .int .i64 (i : Int) ∧ i ≤ n2 ∧ v10 = .slice A1 i k1 ∧ wr.ownsRow wx.heap.size 3 1 (.slice A1 i k1) i (i64s (Q.take i)) ∧ Below wx.heap.size wx wr) (fun _ v11 _ => n2 - (intOf v11).toNat)
      case atStart => exact ⟨0, none, 0, rfl, Nat.zero_le _, rfl, World.ownsRow_nil _ _ _ _, Below.refl _ _⟩
      case round =>
        obtain ⟨i, A1, k1, rfl, hi, rfl, ho, hwr⟩ := hrel
        have HO := Lib.hid ho
        have HWR := Lib.hid hwr
        by_cases q : i < n2
        · have hil : i < more.length := by have := HN.out; omega
          have u1 : (i : Int) < (n2 : Int) := by omega
          have u0 : (0 : Int) ≤ (i : Int) := by omega
          have zi : IntKind.i64.wrap ((i : Int) + 1) = (i : Int) + 1 := by rw [IntKind.wrap_i64]; have := HN.out; omega
          obtain ⟨g, off, rfl, hgl, hc⟩ := Ar.SlR.byte (HA1.out.2.below (H7.out.below hwr).way) hil
          have d0 := hc i hil
          obtain ⟨S, hS⟩ : ∃ S : Int, ((more[i] : Nat) : Int) = S := ⟨_, rfl⟩
          rw [hS] at d0
          have zs : IntKind.i64.wrap S = S := by rw [IntKind.wrap_i64]; have := HWF.out.2 more[i] (List.getElem_mem hil); omega
          have HT : Hid (i64s (Q.take i) ++ i64s [S] = i64s (Q.take (i + 1))) := Lib.hid (by
            have e : Q[i]? = some S := by rw [HQ.out.1, List.getElem?_map, List.getElem?_eq_getElem hil, Option.map_some, hS]
            rw [List.take_add_one, e, i64s, i64s, i64s, List.map_append]
            rfl)
          have HI : Hid (i < n2 ∧ n2 ≤ 100) := Lib.hid ⟨q, HN.out.2.2.2⟩
          clear ho hwr hi q hil hgl hc hS
          go_wp2_with (first | (at_builtin; refine wpList_app _ rfl (.tmp 63) (.tmp 69) 38 rfl wx.heap.size 3 ci0 _ 1 8 Tryd.underlying38 hi0 hz0 hz1 hz2 rfl (by omega) A1 i k1 _ rfl (ownsRow_below HO.out ((Below.refl _ wr).alloc (Nat.le_refl _) _)) _ 1 1 (i64s [S]) rfl (by rfl) (SlR_new wr #[.int .i64 S] 3) (i64s_one _) (by have := HI.out; unfold maxLen; omega) (by have := HI.out; omega) (by have := HWR.out.size; simp; omega) ?_; intro A3 k3 w3 hown3 hg3 hb3))
          have HB3 : Hid (Below wx.heap.size wx w3) := Lib.hid ((HWR.out.alloc HWR.out.size _).trans hb3)
          rw [HT.out] at hown3
          have HO3 := Lib.hid hown3
          clear hown3 hg3 hb3
          go_wp2
          go_roundw
          case rel => exact ⟨i + 1, A3, k3, by go_num, HI.out.1, rfl, HO3.out, HB3.out⟩
          case measure => have := HI.out; (try simp [intOf]) <;> omega
        · have u1 : ¬ ((i : Int) < (n2 : Int)) := by omega
          have ei : i = n2 := by omega
          subst ei
          have et : Q.take i = Q := List.take_of_length_le (by have := HQ.out; omega)
          rw [et] at ho
          have HD := Lib.hid (heldT_own ho)
          have H8 := Lib.hid (H7.out.below hwr)
          obtain ⟨m, hm⟩ : ∃ m, (leavesL lf 16).length = m := ⟨_, rfl⟩
          obtain ⟨N, hN⟩ : ∃ N : Int, ((needN lf Q : Nat) : Int) = N := ⟨_, rfl⟩
          have HM : Hid ((leavesL lf 16).length = m ∧ ((needN lf Q : Nat) : Int) = N) := Lib.hid ⟨hm, hN⟩
          clear ho hwr hi q et hm hN HO HWR
          go_wp2_with fail
          refine (tneed H8.out Q i HQ.out.2 (by have := HN.out; omega) A1 k1 HD.out.sl N HM.out.2).mono ?_
          rintro e w10 ⟨rfl, hb10⟩
          have H10 := Lib.hid (H8.out.below hb10)
          have HD10 := Lib.hid (HD.out.keep (KeepP.of_below hb10) int_off)
          clear hb10
          go_wp2_with fail
          refine (tleaves H10.out m HM.out.1).mono ?_
          rintro e w11 ⟨A11, k11, rfl, _, hb11⟩
          have H11 := Lib.hid (H10.out.below hb11)
          have HD11 := Lib.hid (HD10.out.keep (KeepP.of_below hb11) int_off)
          clear hb11
          go_wp2_with fail
          go_loopw [14] (fun v14 wr => ∃ (t : Nat) (lt : List Tl) (P : Nat → List Pg) (f : Nat → Nat) (C : Nat) (lf2 A B : Nat → Nat), t ≤ i ∧ v14 = .int .i64 (t : Int) ∧ TS w1 wr pb tb qm fb ga gb b c xb a 65536 (k + 1 + t) lt P f C lf2 A B ∧ Alone lt P lf2 A C ∧ HeldT 3 wr A1 (i64s Q) ∧ ∀ j, j < 16 → (lf2 j ≠ 0 ↔ lf j ≠ 0 ∨ ∃ s ∈ Q.take t, s.toNat / 16 = j)) (fun v14 _ => i - (intOf v14).toNat)
          case atStart => exact ⟨0, _, _, _, _, _, _, _, Nat.zero_le _, rfl, H11.out, AL7.out, HD11.out, fun j _ => by simp⟩
          case round =>
            obtain ⟨t, lt2, P2, f2, C2, lf2, A12, B12, ht, rfl, h12, al12, hd12, hl12⟩ := hrel
            have H12 := Lib.hid h12
            have AL12 := Lib.hid al12
            have HD12 := Lib.hid hd12
            have HL12 := Lib.hid hl12
            by_cases q : t < i
            · have htl : t < Q.length := by have := HQ.out; omega
              have u1 : (t : Int) < (i : Int) := by omega
              have u0 : (0 : Int) ≤ (t : Int) := by omega
              have zt : IntKind.i64.wrap ((t : Int) + 1) = (t : Int) + 1 := by rw [IntKind.wrap_i64]; have := HN.out; omega
              obtain ⟨g, off, rfl, hc⟩ := hd12.sl.int htl
              obtain ⟨S, hS⟩ : ∃ S : Int, Q[t] = S := ⟨_, rfl⟩
              rw [hS] at hc
              have hSb := HQB.out S (by rw [← hS]; exact List.getElem_mem htl)
              have HS : Hid (S.toNat < 256 ∧ (S.toNat : Int) = S ∧ Q.take (t + 1) = Q.take t ++ [S] ∧ t < i ∧ i ≤ 100) := Lib.hid ⟨by omega, by omega, by rw [List.take_add_one, List.getElem?_eq_getElem htl, hS]; rfl, q, by have := HN.out; omega⟩
              clear h12 al12 hd12 hl12 ht q htl hS hSb
              go_wp2_with fail
              refine (tset_ok2 H12.out AL12.out (by decide) HZ1.out HC1.out (by have := HS.out; have := HKN.out; omega) S.toNat 7 7 HS.out.1 (by decide) (by decide) (by decide) S 7 7 HS.out.2.1 rfl rfl).mono ?_
              rintro e w13 ⟨rfl, lt13, P13, f13, C13, lf13, h13, al13, k13, hl13⟩
              have H13 := Lib.hid h13
              have AL13 := Lib.hid al13
              have HD13 := Lib.hid (HD12.out.keep k13 int_off)
              have HL13 : Hid (∀ j, j < 16 → (lf13 j ≠ 0 ↔ lf j ≠ 0 ∨ ∃ s ∈ Q.take (t + 1), s.toNat / 16 = j)) := Lib.hid (fun j hj => by
                rw [hl13, HL12.out j hj, HS.out.2.2.1]
                constructor
                · rintro ((h | ⟨s, h, e⟩) | h)
                  · exact .inl h
                  · exact .inr ⟨s, List.mem_append_left _ h, e⟩
                  · exact .inr ⟨S, List.mem_append_right _ List.mem_cons_self, h.symm⟩
                · rintro (h | ⟨s, h, e⟩)
                  · exact .inl (.inl h)
                  · rcases List.mem_append.1 h with h | h
                    · exact .inl (.inr ⟨s, h, e⟩)
                    · rw [List.mem_singleton.1 h] at e
                      exact .inr e.symm)
              clear h13 al13 k13 hl13 hc
              go_wp2
              go_roundw
              case rel => exact ⟨t + 1, lt13, P13, f13, C13, lf13, _, _, HS.out.2.2.2.1, by go_num, by have := H13.out; rw [Nat.add_assoc] at this; exact this, AL13.out, HD13.out, HL13.out⟩
              case measure => have := HS.out; (try simp [intOf]) <;> omega
            · have u1 : ¬ ((t : Int) < (i : Int)) := by omega
              have et : t = i := by omega
              subst et
              have e0 : Q.take t = Q := List.take_of_length_le (by have := HQ.out; omega)
              rw [e0] at hl12
              have hcnt := need_count HQB.out hl12
              have HCNT := Lib.hid hcnt
              clear h12 al12 hd12 hl12 ht q e0 hcnt HL12
              go_wp2_with fail
              have b14 : Below wr.heap.size wr (wr.alloc (.cells #[.bool false, .bool false, .bool false, .bool false, .bool false, .bool false, .bool false, .bool false, .bool false, .bool false, .bool false, .bool false, .bool false, .bool false, .bool false, .bool false] 48)) := (Below.refl _ wr).alloc (Nat.le_refl _) _
              have x14 : BA (wr.alloc (.cells #[.bool false, .bool false, .bool false, .bool false, .bool false, .bool false, .bool false, .bool false, .bool false, .bool false, .bool false, .bool false, .bool false, .bool false, .bool false, .bool false] 48)) wr.heap.size (fun _ => false) := ⟨_, heap_alloc_new wr _, rfl, fun i hi => by
                have : i = 0 ∨ i = 1 ∨ i = 2 ∨ i = 3 ∨ i = 4 ∨ i = 5 ∨ i = 6 ∨ i = 7 ∨ i = 8 ∨ i = 9 ∨ i = 10 ∨ i = 11 ∨ i = 12 ∨ i = 13 ∨ i = 14 ∨ i = 15 := by omega
                rcases this with rfl | rfl | rfl | rfl | rfl | rfl | rfl | rfl | rfl | rfl | rfl | rfl | rfl | rfl | rfl | rfl <;> rfl⟩
              have hlo : w1.heap.size ≤ wr.heap.size := H12.out.way.size
              have h14 := H12.out.below b14
              have hd14 := HD12.out.keep (KeepP.of_below b14) int_off
              obtain ⟨bb, hbb⟩ : ∃ bb, wr.heap.size = bb := ⟨_, rfl⟩
              rw [hbb] at x14 hlo
              rw [hbb]
              generalize wr.alloc (.cells #[.bool false, .bool false, .bool false, .bool false, .bool false, .bool false, .bool false, .bool false, .bool false, .bool false, .bool false, .bool false, .bool false, .bool false, .bool false, .bool false] 48) = w14 at b14 x14 h14 hd14 ⊢
              have H14 := Lib.hid h14
              have HD14 := Lib.hid hd14
              have HBA := Lib.hid x14
              have HLO : Hid (w1.heap.size ≤ bb) := Lib.hid hlo
              obtain ⟨sm, hsm⟩ : ∃ sm, (slotsL A12 256).length = sm := ⟨_, rfl⟩
              have HSM : Hid ((slotsL A12 256).length = sm ∧ sm ≤ 256) := Lib.hid ⟨hsm, by rw [← hsm]; exact slotsL_length _ _⟩
              clear b14 x14 hlo h14 hd14 hbb hsm
              refine (tslots H14.out sm HSM.out.1).mono ?_
              rintro e w15 ⟨A15, k15, rfl, ho15, hb15⟩
              have H15 := Lib.hid (H14.out.below hb15)
              have HD15 := Lib.hid (HD14.out.keep (KeepP.of_below hb15) int_off)
              have HS15 := Lib.hid (heldT_own ho15)
              have HBA15 : Hid (BA w15 bb (fun _ => false)) := Lib.hid (by
                obtain ⟨cs, g1, g2⟩ := HBA.out
                exact ⟨cs, (hb15.block _ (blt g1)).trans g1, g2⟩)
              clear ho15 hb15
              go_wp2_with fail
              go_loopw [16, 18] (fun v16 v18 wr => ∃ i : Nat, i ≤ sm ∧ v18 = .int .i64 (i : Int) ∧ v16 = .int .i64 ((seenN ((slotsL A12 256).take i) : Nat) : Int) ∧ TS w1 wr pb tb qm fb ga gb b c xb a 65536 (k + 1 + t) lt2 P2 f2 C2 lf2 A12 B12 ∧ HeldT 3 wr A1 (i64s Q) ∧ HeldT 3 wr A15 (i64s (slotsL A12 256)) ∧ BA wr bb (seenB ((slotsL A12 256).take i))) (fun _ v18 _ => sm - (intOf v18).toNat)
              case atStart => exact ⟨0, Nat.zero_le _, rfl, rfl, H15.out, HD15.out, HS15.out, HBA15.out.congr fun i hi => by simp [seenB]⟩
              case round =>
                obtain ⟨i, hi, rfl, rfl, h16, hd16, hs16, ba16⟩ := hrel
                have H16 := Lib.hid h16
                have HD16 := Lib.hid hd16
                have HS16 := Lib.hid hs16
                have BA16 := Lib.hid ba16
                obtain ⟨cnt, hcnt⟩ : ∃ cnt : Nat, seenN ((slotsL A12 256).take i) = cnt := ⟨_, rfl⟩
                rw [hcnt]
                have HCT : Hid (seenN ((slotsL A12 256).take i) = cnt ∧ cnt ≤ 16) := Lib.hid ⟨hcnt, by rw [← hcnt]; unfold seenN; exact Nat.le_trans List.countP_le_length (by simp)⟩
                clear hcnt
                by_cases q : i < sm
                · have hil : i < (slotsL A12 256).length := by have := HSM.out; omega
                  have u1 : (i : Int) < (sm : Int) := by omega
                  have u0 : (0 : Int) ≤ (i : Int) := by omega
                  have zi : IntKind.i64.wrap ((i : Int) + 1) = (i : Int) + 1 := by rw [IntKind.wrap_i64]; have := HSM.out; omega
                  have zn : IntKind.i64.wrap ((cnt : Int) + 1) = (cnt : Int) + 1 := by rw [IntKind.wrap_i64]; have := HCT.out; omega
                  obtain ⟨g, off, rfl, hc⟩ := hs16.sl.int hil
                  obtain ⟨S, hS⟩ : ∃ S : Int, (slotsL A12 256)[i] = S := ⟨_, rfl⟩
                  rw [hS] at hc
                  have hSb := mem_slotsL (S := S) (by rw [← hS]; exact List.getElem_mem hil)
                  obtain ⟨D, hD⟩ : ∃ D : Int, ((S.toNat / 16 : Nat) : Int) = D := ⟨_, rfl⟩
                  have z1 : S.tdiv 16 = D := by rw [Int.tdiv_eq_ediv_of_nonneg (by omega)]; omega
                  have z2 : IntKind.i64.wrap D = D := by rw [IntKind.wrap_i64]; omega
                  have z3 : wrap64 D = D := by unfold wrap64; omega
                  have za : bits .and .i64 D 15 = D := and15 D (by omega) (by omega)
                  have d0 : (0 : Int) ≤ D := by omega
                  have d1 : D < 16 := by omega
                  have HT : Hid ((slotsL A12 256).take (i + 1) = (slotsL A12 256).take i ++ [S] ∧ D.toNat = S.toNat / 16 ∧ S.toNat < 256 ∧ i < sm ∧ sm ≤ 256) := Lib.hid ⟨by rw [List.take_add_one, List.getElem?_eq_getElem hil, hS]; rfl, by omega, by omega, q, HSM.out.2⟩
                  obtain ⟨bv, hbv⟩ : ∃ bv, seenB ((slotsL A12 256).take i) D.toNat = bv := ⟨_, rfl⟩
                  have cb := ba16.cell (i := D.toNat) (by omega)
                  rw [hbv] at cb
                  have fbz := ba16.froz D.toNat
                  have HBV := Lib.hid hbv
                  clear h16 hd16 hs16 ba16 hi q hil hS hSb hD hbv
                  cases bv with
                  | true =>
                    have HR : Hid (seenN ((slotsL A12 256).take (i + 1)) = cnt ∧ ∀ j, seenB ((slotsL A12 256).take (i + 1)) j = seenB ((slotsL A12 256).take i) j) := Lib.hid (by
                      have hv := HBV.out
                      rw [HT.out.2.1] at hv
                      refine ⟨by rw [HT.out.1, seenN_old hv]; exact HCT.out.1, fun j => ?_⟩
                      rw [HT.out.1, seenB_snoc]
                      by_cases e : S.toNat / 16 = j
                      · subst e; simp [hv]
                      · simp [e])
                    go_wp2
                    go_roundw
                    case rel => exact ⟨i + 1, HT.out.2.2.2.1, by go_num, by rw [HR.out.1], H16.out, HD16.out, HS16.out, BA16.out.congr fun j _ => HR.out.2 j⟩
                    case measure => have := HT.out; (try simp [intOf]) <;> omega
                  | false =>
                    have HR : Hid (seenN ((slotsL A12 256).take (i + 1)) = cnt + 1) := Lib.hid (by
                      have hv := HBV.out
                      rw [HT.out.2.1] at hv
                      rw [HT.out.1, seenN_new hv HT.out.2.2.1, HCT.out.1])
                    obtain ⟨cs16, ho16, _⟩ := BA16.out
                    have g17 : wr.grownBy (wr.setCell ⟨bb, D.toNat, none⟩ (.bool true)) (some bb) := gb_set (World.grownBy.refl _ _) _ _
                    have H17 := Lib.hid (H16.out.otherB ho16 HLO.out g17)
                    have HD17 := Lib.hid (HD16.out.turn g17 ho16 (by decide))
                    have HS17 := Lib.hid (HS16.out.turn g17 ho16 (by decide))
                    have BA17 : Hid (BA (wr.setCell ⟨bb, D.toNat, none⟩ (.bool true)) bb (seenB ((slotsL A12 256).take (i + 1)))) := Lib.hid ((BA16.out.set (i := D.toNat) (by have := HT.out; omega)).congr fun j _ => by rw [HT.out.1, seenB_snoc, HT.out.2.1])
                    clear g17 ho16
                    go_wp2
                    go_roundw
                    case rel => exact ⟨i + 1, HT.out.2.2.2.1, by go_num, by rw [HR.out]; go_num, H17.out, HD17.out, HS17.out, BA17.out⟩
                    case measure => have := HT.out; (try simp [intOf]) <;> omega
                · have u1 : ¬ ((i : Int) < (sm : Int)) := by omega
                  have ei : i = sm := by omega
                  subst ei
                  have et : (slotsL A12 256).take i = slotsL A12 256 := List.take_of_length_le (by have := HSM.out; omega)
                  have hseen := seen_leaves h16 AL12.out
                  have hus := used_leaves h16 AL12.out
                  have hct := HCT.out.1
                  rw [et, hseen] at hct
                  have hcost := AL12.out.cost
                  rw [hct] at hcost hus
                  have h1 := HCNT.out.1
                  rw [hct, HM.out.1] at h1
                  have hN := HM.out.2
                  have hc16 := HCT.out.2
                  obtain ⟨D, hD⟩ : ∃ D : Int, 256 * (cnt : Int) = D := ⟨_, rfl⟩
                  obtain ⟨CC, hCC⟩ : ∃ CC : Int, (C2 : Int) = CC := ⟨_, rfl⟩
                  have z1 : IntKind.i64.wrap ((m : Int) + N) = (cnt : Int) := by rw [IntKind.wrap_i64]; omega
                  have z2 : IntKind.i64.wrap (256 * (cnt : Int)) = D := by rw [IntKind.wrap_i64]; omega
                  have z3 : IntKind.i64.wrap (128 + D) = CC := by rw [IntKind.wrap_i64]; omega
                  have n1 : ((cnt : Int) == (cnt : Int)) = true := by simp
                  have n2' : (CC == CC) = true := by simp
                  have HF : Hid ((leavesL lf2 16).length = cnt ∧ (C2 : Int) = CC ∧ C2 ≤ 65536 ∧ cnt = (usedC (mC 7) (szC 7) (P2 7)).length ∧ ((needN lf2 Q : Nat) : Int) = 0 ∧ t ≤ 100) := Lib.hid ⟨hct, hCC, by omega, hus.symm, by rw [HCNT.out.2]; rfl, by have := HN.out; omega⟩
                  clear h16 hd16 hs16 ba16 hi q et hseen hus hct hcost h1 hN hc16 hD hCC
                  go_wp2_with fail
                  refine (tleaves H16.out cnt HF.out.1).mono ?_
                  rintro e w20 ⟨A20, k20, rfl, _, hb20⟩
                  have H20 := Lib.hid (H16.out.below hb20)
                  have HD20 := Lib.hid (HD16.out.keep (KeepP.of_below hb20) int_off)
                  clear hb20
                  go_wp2_with fail
                  refine (pquota H20.out.pl).mono ?_
                  rintro e w' ⟨rfl, hw⟩
                  have hw2 := hw.symm
                  clear hw
                  subst hw2
                  go_wp2_with fail
                  refine (quse_any H20.out.pl.qu (by have := HF.out; omega) CC HF.out.2.1).mono ?_
                  rintro e w21 ⟨rfl, hb21⟩
                  have H21 := Lib.hid (H20.out.below hb21)
                  have HD21 := Lib.hid (HD20.out.keep (KeepP.of_below hb21) int_off)
                  clear hb21
                  go_wp2_with fail
                  refine (pused H21.out.pl HZ1.out HC1.out seven_mem 7 rfl cnt HF.out.2.2.2.1).mono ?_
                  rintro e w22 ⟨A22, k22, rfl, _, hb22⟩
                  have H22 := Lib.hid (H21.out.below hb22)
                  have HD22 := Lib.hid (HD21.out.keep (KeepP.of_below hb22) int_off)
                  clear hb22
                  go_wp2_with fail
                  refine (tneed H22.out Q t HQ.out.2 (by have := HF.out; omega) A1 k1 HD22.out.sl 0 HF.out.2.2.2.2.1).mono ?_
                  rintro e w23 ⟨rfl, hb23⟩
                  have HW := Lib.hid (HB.out.trans ((H22.out.below hb23).way.mono HB.out.size))
                  clear hb23
                  go_wp2
                  go_ret
                  exact ⟨rfl, HW.out⟩
set_option maxRecDepth 100000 in
theorem tleaves_long (A A2 : Option Addr) (nl cap n2 cap2 : Nat) (h : 100 < nl ∨ 100 < n2) (w : World) (hZ : TabZ w) (hC : TabC w) : Calls Tryd.prog 5 #[.slice A nl cap, .slice A2 n2 cap2] w fun e w' => e = .returned (.bool true) ∧ Below w.heap.size w w' := by
  have HZ := Lib.hid hZ
  have HC := Lib.hid hC
  have key : ((100 : Int) < (nl : Int)) ∨ (¬ ((100 : Int) < (nl : Int)) ∧ (100 : Int) < (n2 : Int)) := by omega
  clear hZ hC h
  rcases key with i1 | ⟨i1, i2⟩
  all_goals
    go_enter Tryd.func5, Tryd.ntmps5
    go_wp2_with fail
    refine (alive_any _ HZ.out HC.out).mono ?_
    rintro e w1 ⟨rfl, hb⟩
    have HB := Lib.hid hb
    clear hb
    go_wp2
    go_ret
    exact ⟨rfl, HB.out⟩
theorem leaves_any (l more : List Nat) (A A2 : Option Addr) (cap cap2 : Nat) (hwf : ∀ x ∈ l, x < 256) (hwf2 : ∀ x ∈ more, x < 256) (w : World) (hZ : TabZ w) (hC : TabC w) (hA : SlR w A (Ar.u8s l)) (hA2 : SlR w A2 (Ar.u8s more)) : Calls Tryd.prog 5 #[.slice A l.length cap, .slice A2 more.length cap2] w fun e w' => e = .returned (.bool true) ∧ Below w.heap.size w w' := by
  by_cases h : 100 < l.length ∨ 100 < more.length
  · exact tleaves_long A A2 _ cap _ cap2 h w hZ hC
  · exact tleaves_law l more A A2 _ cap _ cap2 rfl rfl hwf hwf2 w hZ hC hA hA2 (by omega) (by omega)
end Go.Proofs.YtflkoabgkgegjaaDoor
