/- The table's Slots and Leaves. Condition: the table's state. And what follows from it. -/
import Derived.Test.YtflkoabgkgegjaaGreatDoorY34
/- The table's Slots and Leaves. Condition: the table's state. -/
namespace Go.Proofs.YtflkoabgkgegjaaGreatDoor
open Go.RowKit Go.Maps

/-- the slots below k that aren't empty -/
def slotsL (A : Nat → Nat) (k : Nat) : List Int := ((List.range k).filter fun i => A i != 0).map fun (i : Nat) => (i : Int)
theorem slotsL_succ (A : Nat → Nat) (k : Nat) : slotsL A (k + 1) = if A k = 0 then slotsL A k else slotsL A k ++ [(k : Int)] := by
  unfold slotsL
  rw [List.range_succ, List.filter_append, List.map_append]
  by_cases q : A k = 0
  · simp [q]
  · simp [q]
theorem slotsL_length (A : Nat → Nat) : ∀ k, (slotsL A k).length ≤ k
  | 0 => Nat.le_refl 0
  | k + 1 => by
    have := slotsL_length A k
    rw [slotsL_succ]
    split
    · omega
    · rw [List.length_append, List.length_cons, List.length_nil]; omega
/-- where the leaves below k begin -/
def leavesL (lf : Nat → Nat) (k : Nat) : List Int := ((List.range k).filter fun j => lf j != 0).map fun (j : Nat) => ((lf j : Nat) : Int)
theorem leavesL_succ (lf : Nat → Nat) (k : Nat) : leavesL lf (k + 1) = if lf k = 0 then leavesL lf k else leavesL lf k ++ [((lf k : Nat) : Int)] := by
  unfold leavesL
  rw [List.range_succ, List.filter_append, List.map_append]
  by_cases q : lf k = 0
  · simp [q]
  · simp [q]
theorem leavesL_length (lf : Nat → Nat) : ∀ k, (leavesL lf k).length ≤ k
  | 0 => Nat.le_refl 0
  | k + 1 => by
    have := leavesL_length lf k
    rw [leavesL_succ]
    split
    · omega
    · rw [List.length_append, List.length_cons, List.length_nil]; omega
section
variable {W w w' : World} {pb tb qm fb ga gb b : Nat} {c : Nat → Nat} {xb at_ L n : Nat} {l : List Tl} {P : Nat → List Pg} {f : Nat → Nat} {C : Nat} {lf A B : Nat → Nat}
set_option maxRecDepth 100000 in
set_option maxHeartbeats 3200000 in
theorem tslots (h : TS W w pb tb qm fb ga gb b c xb at_ L n l P f C lf A B) (m : Nat) (hm : (slotsL A 256).length = m) :
    Calls Tryz.prog 8 #[.pointer (some ⟨xb, 0, none⟩)] w fun e w' => ∃ A' k', e = .returned (.slice A' m k') ∧ w'.ownsRow w.heap.size 3 1 (.slice A' m k') m (i64s (slotsL A 256)) ∧ Below w.heap.size w w' := by
  obtain ⟨i0, hi0, hz0, hz1, hz2⟩ := info_parts info_int
  have H := Lib.hid h
  have HM := Lib.hid hm
  clear h hm
  go_enter Tryz.func8, Tryz.ntmps8
  go_wp2_with fail
  go_loopw [3, 4, 5, 6, 7] (fun v3 _ _ _ v7 wr => ∃ (k j : Nat) (A1 : Option Addr) (k1 : Nat), v7 = .int .i64 (k : Int) ∧ k ≤ 256 ∧ j = (slotsL A k).length ∧ v3 = .slice A1 j k1 ∧ wr.ownsRow w.heap.size 3 1 (.slice A1 j k1) j (i64s (slotsL A k)) ∧ Below w.heap.size w wr) (fun _ _ _ _ v7 _ => 256 - (intOf v7).toNat)
  case atStart => exact ⟨0, 0, none, 0, rfl, Nat.zero_le _, rfl, rfl, World.ownsRow_nil _ _ _ _, Below.refl _ _⟩
  case round =>
    obtain ⟨k, j, A1, k1, rfl, hk, hj, rfl, ho, hwr⟩ := hrel
    have HO := Lib.hid ho
    have HWR := Lib.hid hwr
    have HJ := Lib.hid hj
    by_cases q : k < 256
    · have j1 : decide ((k : Int) < 256) = true := decide_eq_true (by omega)
      have zk : IntKind.i64.wrap ((k : Int) + 1) = (k : Int) + 1 := by rw [IntKind.wrap_i64]; omega
      obtain ⟨X, hX⟩ : ∃ X : Int, (A k : Int) = X := ⟨_, rfl⟩
      obtain ⟨Y, hY⟩ : ∃ Y : Int, (B k : Int) = Y := ⟨_, rfl⟩
      have HG := Lib.hid (tget_in (H.out.below hwr) k q (k : Int) X Y rfl hX hY)
      have HX := Lib.hid hX
      have HQ := Lib.hid q
      clear ho hwr hX hY q hk hj
      go_wp2_with fail
      refine HG.out.mono ?_
      rintro e w' ⟨rfl, hw⟩
      have hw2 := hw.symm
      clear hw
      subst hw2
      by_cases q : X = 0
      · have t1 : (X != 0) = false := by simp [q]
        have HE : Hid (slotsL A (k + 1) = slotsL A k) := Lib.hid (by rw [slotsL_succ, if_pos (by have := HX.out; omega)])
        clear q
        go_wp2
        go_roundw
        case rel => exact ⟨k + 1, j, A1, k1, by go_num, HQ.out, by rw [HE.out]; exact HJ.out, rfl, by rw [HE.out]; exact HO.out, HWR.out⟩
        case measure => have := HQ.out; (try simp [intOf]) <;> omega
      · have t1 : (X != 0) = true := by simp [q]
        have HE : Hid (slotsL A (k + 1) = slotsL A k ++ [(k : Int)]) := Lib.hid (by rw [slotsL_succ, if_neg (by have := HX.out; omega)])
        have HJB : Hid (j ≤ 256) := Lib.hid (by have := slotsL_length A k; have := HJ.out; have := HQ.out; omega)
        have HT : Hid (i64s (slotsL A k) ++ i64s [(k : Int)] = i64s (slotsL A (k + 1))) := Lib.hid (by rw [HE.out, i64s, i64s, i64s, List.map_append])
        clear q
        go_wp2_with (first | (at_builtin; refine wpList_app _ rfl (.tmp 18) (.tmp 20) 24 rfl w.heap.size 3 i0 _ 1 8 Tryz.underlying24 hi0 hz0 hz1 hz2 rfl (by omega) A1 j k1 _ rfl (ownsRow_below HO.out ((Below.refl _ wr).alloc (Nat.le_refl _) _)) _ 1 1 (i64s [(k : Int)]) rfl (by rfl) (SlR_new wr #[.int .i64 (k : Int)] 3) (i64s_one _) (by have := HJB.out; unfold maxLen; omega) (by have := HJB.out; omega) (by have := HWR.out.size; simp; omega) ?_; intro A3 k3 w3 hown3 hg3 hb3))
        have HB3 : Hid (Below w.heap.size w w3) := Lib.hid ((HWR.out.alloc HWR.out.size _).trans hb3)
        rw [HT.out] at hown3
        have HO3 := Lib.hid hown3
        clear hown3 hg3 hb3
        go_wp2
        go_roundw
        case rel => exact ⟨k + 1, j + 1, A3, k3, by go_num, HQ.out, by rw [HE.out, List.length_append, ← HJ.out]; rfl, rfl, HO3.out, HB3.out⟩
        case measure => have := HQ.out; (try simp [intOf]) <;> omega
    · have j1 : decide ((k : Int) < 256) = false := decide_eq_false (by omega)
      have ek : k = 256 := by omega
      subst ek
      have ej : j = m := by rw [hj]; exact HM.out
      subst ej
      clear hwr ho hk hj q
      go_wp2
      go_ret
      exact ⟨A1, k1, rfl, HO.out, HWR.out⟩
set_option maxRecDepth 100000 in
set_option maxHeartbeats 3200000 in
theorem tleaves (h : TS W w pb tb qm fb ga gb b c xb at_ L n l P f C lf A B) (m : Nat) (hm : (leavesL lf 16).length = m) :
    Calls Tryz.prog 9 #[.pointer (some ⟨xb, 0, none⟩)] w fun e w' => ∃ A' k', e = .returned (.slice A' m k') ∧ w'.ownsRow w.heap.size 3 1 (.slice A' m k') m (i64s (leavesL lf 16)) ∧ Below w.heap.size w w' := by
  obtain ⟨i0, hi0, hz0, hz1, hz2⟩ := info_parts info_int
  have H := Lib.hid h
  have HM := Lib.hid hm
  clear h hm
  go_enter Tryz.func9, Tryz.ntmps9
  go_wp2_with fail
  go_loopw [3, 4, 5] (fun v3 v4 _ wr => ∃ (k j : Nat) (A1 : Option Addr) (k1 : Nat), v4 = .int .i64 ((16 * k : Nat) : Int) ∧ k ≤ 16 ∧ j = (leavesL lf k).length ∧ v3 = .slice A1 j k1 ∧ wr.ownsRow w.heap.size 3 1 (.slice A1 j k1) j (i64s (leavesL lf k)) ∧ Below w.heap.size w wr) (fun _ v4 _ _ => 256 - (intOf v4).toNat)
  case atStart => exact ⟨0, 0, none, 0, rfl, Nat.zero_le _, rfl, rfl, World.ownsRow_nil _ _ _ _, Below.refl _ _⟩
  case round =>
    obtain ⟨k, j, A1, k1, rfl, hk, hj, rfl, ho, hwr⟩ := hrel
    have HO := Lib.hid ho
    have HWR := Lib.hid hwr
    have HJ := Lib.hid hj
    obtain ⟨S, hS⟩ : ∃ S : Int, ((16 * k : Nat) : Int) = S := ⟨_, rfl⟩
    rw [hS]
    have HSS := Lib.hid hS
    by_cases q : k < 16
    · have j1 : decide (S < 256) = true := decide_eq_true (by omega)
      have zk : IntKind.i64.wrap (S + 16) = S + 16 := by rw [IntKind.wrap_i64]; omega
      obtain ⟨X, hX⟩ : ∃ X : Int, (lf k : Int) = X := ⟨_, rfl⟩
      have HG := Lib.hid (tleaf (H.out.below hwr) (16 * k) (by omega) S X hS (by rw [show 16 * k / 16 = k by omega]; exact hX))
      have HX := Lib.hid hX
      have HQ := Lib.hid q
      clear ho hwr hX q hk hj hS
      go_wp2_with fail
      refine HG.out.mono ?_
      rintro e w' ⟨rfl, hw⟩
      have hw2 := hw.symm
      clear hw
      subst hw2
      by_cases q : X = 0
      · have t1 : (X != 0) = false := by simp [q]
        have HE : Hid (leavesL lf (k + 1) = leavesL lf k) := Lib.hid (by rw [leavesL_succ, if_pos (by have := HX.out; omega)])
        clear q
        go_wp2
        go_roundw
        case rel => exact ⟨k + 1, j, A1, k1, by have := HSS.out; congr 1; omega, HQ.out, by rw [HE.out]; exact HJ.out, rfl, by rw [HE.out]; exact HO.out, HWR.out⟩
        case measure => have := HQ.out; have := HSS.out; (try simp [intOf]) <;> omega
      · have t1 : (X != 0) = true := by simp [q]
        have HE : Hid (leavesL lf (k + 1) = leavesL lf k ++ [X]) := Lib.hid (by rw [leavesL_succ, if_neg (by have := HX.out; omega), HX.out])
        have HJB : Hid (j ≤ 16) := Lib.hid (by have := leavesL_length lf k; have := HJ.out; have := HQ.out; omega)
        have HT : Hid (i64s (leavesL lf k) ++ i64s [X] = i64s (leavesL lf (k + 1))) := Lib.hid (by rw [HE.out, i64s, i64s, i64s, List.map_append])
        clear q
        go_wp2_with (first | (at_builtin; refine wpList_app _ rfl (.tmp 19) (.tmp 21) 24 rfl w.heap.size 3 i0 _ 1 8 Tryz.underlying24 hi0 hz0 hz1 hz2 rfl (by omega) A1 j k1 _ rfl (ownsRow_below HO.out ((Below.refl _ wr).alloc (Nat.le_refl _) _)) _ 1 1 (i64s [X]) rfl (by rfl) (SlR_new wr #[.int .i64 X] 3) (i64s_one _) (by have := HJB.out; unfold maxLen; omega) (by have := HJB.out; omega) (by have := HWR.out.size; simp; omega) ?_; intro A3 k3 w3 hown3 hg3 hb3))
        have HB3 : Hid (Below w.heap.size w w3) := Lib.hid ((HWR.out.alloc HWR.out.size _).trans hb3)
        rw [HT.out] at hown3
        have HO3 := Lib.hid hown3
        clear hown3 hg3 hb3
        go_wp2
        go_roundw
        case rel => exact ⟨k + 1, j + 1, A3, k3, by have := HSS.out; congr 1; omega, HQ.out, by rw [HE.out, List.length_append, ← HJ.out]; rfl, rfl, HO3.out, HB3.out⟩
        case measure => have := HQ.out; have := HSS.out; (try simp [intOf]) <;> omega
    · have j1 : decide (S < 256) = false := decide_eq_false (by omega)
      have ek : k = 16 := by omega
      subst ek
      have ej : j = m := by rw [hj]; exact HM.out
      subst ej
      clear hwr ho hk hj q hS
      go_wp2
      go_ret
      exact ⟨A1, k1, rfl, HO.out, HWR.out⟩
end
end Go.Proofs.YtflkoabgkgegjaaGreatDoor
/- The table's Need. Condition: the table's state, and the slots that are asked are read. -/
namespace Go.Proofs.YtflkoabgkgegjaaGreatDoor
open Go.RowKit Go.Maps

/-- a leaf that isn't there, and is asked for -/
def needB (lf : Nat → Nat) (L : List Int) (j : Nat) : Bool := decide (lf j = 0 ∧ ∃ s ∈ L, 0 ≤ s ∧ s < 256 ∧ s.toNat / 16 = j)
def needN (lf : Nat → Nat) (L : List Int) : Nat := (List.range 16).countP (needB lf L)
theorem pop16 {ws : List Nat} (h : WF 16 ws) : popL ws = (List.range 16).countP (bitW ws) := by
  have hl := h.len
  match ws, h, hl with
  | [x], h, _ =>
    have e : popL [x] = pop x := by simp [popL]
    have eb : ∀ i, i < 64 → bitW [x] i = x.testBit i := fun i hi => by
      unfold bitW
      rw [Nat.div_eq_of_lt hi, Nat.mod_eq_of_lt hi]
      rfl
    rw [e, pop, show (64 : Nat) = 16 + 48 from rfl, List.range_add, List.countP_append, List.countP_map]
    have z : (List.range 48).countP ((fun b => x.testBit b) ∘ (16 + ·)) = 0 := by
      rw [List.countP_eq_zero]
      intro i hi
      have hi2 := List.mem_range.1 hi
      have := h.out (16 + i) (by omega)
      rw [eb _ (by omega)] at this
      simp only [Function.comp_apply, this]
      decide
    rw [z, Nat.add_zero]
    refine List.countP_congr fun i hi => ?_
    rw [eb i (by have := List.mem_range.1 hi; omega)]
  | [], _, hl => simp at hl
  | _ :: _ :: _, _, hl => simp at hl
theorem needB_snoc (lf : Nat → Nat) (L : List Int) (s : Int) (j : Nat) : needB lf (L ++ [s]) j = (needB lf L j || decide (lf j = 0 ∧ 0 ≤ s ∧ s < 256 ∧ s.toNat / 16 = j)) := by
  unfold needB
  rw [← Bool.decide_or]
  congr 1
  simp only [List.mem_append, List.mem_cons, List.not_mem_nil, or_false, eq_iff_iff]
  constructor
  · rintro ⟨h1, t, h2 | rfl, h3⟩
    · exact .inl ⟨h1, t, h2, h3⟩
    · exact .inr ⟨h1, h3⟩
  · rintro (⟨h1, t, h2, h3⟩ | ⟨h1, h2⟩)
    · exact ⟨h1, t, .inl h2, h3⟩
    · exact ⟨h1, s, .inr rfl, h2⟩
section
variable {W w w' : World} {pb tb qm fb ga gb b : Nat} {c : Nat → Nat} {xb at_ L n : Nat} {l : List Tl} {P : Nat → List Pg} {f : Nat → Nat} {C : Nat} {lf A B : Nat → Nat}
set_option maxRecDepth 100000 in
set_option maxHeartbeats 3200000 in
theorem tneed (h : TS W w pb tb qm fb ga gb b c xb at_ L n l P f C lf A B) (Q : List Int) (m : Nat) (hm : Q.length = m) (hml : m ≤ 1073741824) (Aq : Option Addr) (cap : Nat) (hA : SlR w Aq (i64s Q)) (N : Int) (hN : ((needN lf Q : Nat) : Int) = N) :
    Calls Tryz.prog 10 #[.pointer (some ⟨xb, 0, none⟩), .slice Aq m cap] w fun e w' => e = .returned (.int .i64 N) ∧ Below w.heap.size w w' := by
  have H := Lib.hid h
  have HA := Lib.hid hA
  have HM : Hid (Q.length = m ∧ m ≤ 1073741824) := Lib.hid ⟨hm, hml⟩
  have HN := Lib.hid hN
  clear h hA hm hml hN
  go_enter Tryz.func10, Tryz.ntmps10
  go_wp2_with fail
  refine (new_lit 16 16 rfl _ (by omega)).mono ?_
  rintro e w1 ⟨rfl, hmap, hb1⟩
  obtain ⟨gw, hgw⟩ : ∃ gw, w.heap.size = gw := ⟨_, rfl⟩
  obtain ⟨gm, hgm⟩ : ∃ gm, gw + 1 = gm := ⟨_, rfl⟩
  rw [hgw, hgm] at hmap
  rw [hgw, hgm]
  have HMAP := Lib.hid hmap
  have HB1 := Lib.hid hb1
  have HGW : Hid (w.heap.size ≤ gw) := Lib.hid (by omega)
  clear hmap hb1 hgw hgm
  go_wp2_with fail
  go_loopw [7, 13] (fun _ v13 wr => ∃ (k : Nat) (ws : List Nat), v13 = .int .i64 (k : Int) ∧ k ≤ m ∧ MapAt wr gm gw 16 ws ∧ (∀ j, j < 16 → bitW ws j = needB lf (Q.take k) j) ∧ Below w.heap.size w wr) (fun _ v13 _ => m - (intOf v13).toNat)
  case atStart => exact ⟨0, _, rfl, Nat.zero_le _, HMAP.out, fun j hj => by rw [bitW_new]; simp [needB], HB1.out⟩
  case round =>
    obtain ⟨k, ws, rfl, hk, hm, hb, hwr⟩ := hrel
    have HMP := Lib.hid hm
    have HB := Lib.hid hb
    have HWR := Lib.hid hwr
    by_cases q : k < m
    · have hkl : k < Q.length := by have := HM.out; omega
      have i1 : (k : Int) < (m : Int) := by omega
      have i0 : (0 : Int) ≤ (k : Int) := by omega
      have zk : IntKind.i64.wrap ((k : Int) + 1) = (k : Int) + 1 := by rw [IntKind.wrap_i64]; have := HM.out; omega
      obtain ⟨g, off, rfl, hc⟩ := (HA.out.below hwr).int hkl
      obtain ⟨S, hS⟩ : ∃ S : Int, Q[k] = S := ⟨_, rfl⟩
      rw [hS] at hc
      have HT : Hid (Q.take (k + 1) = Q.take k ++ [S]) := Lib.hid (by rw [List.take_add_one, List.getElem?_eq_getElem hkl, hS]; rfl)
      have HQ := Lib.hid q
      obtain ⟨mb, hmb⟩ : ∃ B : Bool, decide (0 ≤ S ∧ S < 256) = B := ⟨_, rfl⟩
      have HMB := Lib.hid hmb
      clear hm hb hwr hkl hS q hk hmb
      go_wp2_with fail
      refine (tmay S mb HMB.out _).mono ?_
      rintro e w' ⟨rfl, hw⟩
      have hw2 := hw.symm
      clear hw
      subst hw2
      cases mb with
      | false =>
        have HN2 : Hid (∀ j, j < 16 → bitW ws j = needB lf (Q.take (k + 1)) j) := Lib.hid (fun j hj => by
          have h1 := of_decide_eq_false HMB.out
          rw [HT.out, needB_snoc, HB.out j hj, decide_eq_false (fun h => h1 ⟨h.2.1, h.2.2.1⟩), Bool.or_false])
        go_wp2
        go_roundw
        case rel => exact ⟨k + 1, ws, by go_num, HQ.out, HMP.out, HN2.out, HWR.out⟩
        case measure => have := HQ.out; (try simp [intOf]) <;> omega
      | true =>
        obtain ⟨s, hs⟩ : ∃ s : Nat, (s : Int) = S := ⟨S.toNat, by have := of_decide_eq_true HMB.out; omega⟩
        have hs2 : s < 256 := by have := of_decide_eq_true HMB.out; omega
        obtain ⟨V, hV⟩ : ∃ V : Int, ((lf (s / 16) : Nat) : Int) = V := ⟨_, rfl⟩
        have HLf := Lib.hid (tleaf (H.out.below HWR.out) s hs2 S V hs hV)
        have HSV : Hid ((s : Int) = S ∧ s < 256 ∧ ((lf (s / 16) : Nat) : Int) = V) := Lib.hid ⟨hs, hs2, hV⟩
        have HBS : Hid (∀ j, j < 16 → needB lf (Q.take (k + 1)) j = (bitW ws j || decide (lf j = 0 ∧ s / 16 = j))) := Lib.hid (fun j hj => by
          rw [HT.out, needB_snoc, HB.out j hj]
          congr 1
          rw [decide_eq_decide]
          constructor
          · rintro ⟨h1, _, _, h2⟩
            exact ⟨h1, by omega⟩
          · rintro ⟨h1, h2⟩
            exact ⟨h1, by omega, by omega, by omega⟩)
        clear hs hs2 hV
        go_wp2_with fail
        refine HLf.out.mono ?_
        rintro e w' ⟨rfl, hw⟩
        have hw2 := hw.symm
        clear hw
        subst hw2
        by_cases q : V = 0
        · have t1 : (V == 0) = true := by simp [q]
          obtain ⟨D, hD⟩ : ∃ D : Int, ((s / 16 : Nat) : Int) = D := ⟨_, rfl⟩
          have z1 : S.tdiv 16 = D := by have := HSV.out; rw [← HSV.out.1, Int.tdiv_eq_ediv_of_nonneg (by omega)]; omega
          have z2 : IntKind.i64.wrap D = D := by rw [IntKind.wrap_i64]; have := HSV.out; omega
          have z3 : wrap64 D = D := by unfold wrap64; have := HSV.out; omega
          have HD := Lib.hid hD
          have HQ0 := Lib.hid q
          clear q hD
          go_wp2_with fail
          have hb5 : Below wr.heap.size wr (wr.alloc (.cells #[.int .i64 D] 3)) := (Below.refl _ wr).alloc (Nat.le_refl _) _
          refine (set_lit true [D] 1 rfl _ 1 _ gm gw 16 ws _ _ rfl rfl (HMP.out.below hb5) (SlR_new wr #[.int .i64 D] 3) (fun _ a ha => by injection ha with ha; rw [← ha]; have := HMP.out.lt; simp only; omega) (by decide)).mono ?_
          rintro e w6 ⟨rfl, hm6, hg6⟩
          have HN2 : Hid (∀ j, j < 16 → bitW (setL true 16 ws [D]) j = needB lf (Q.take (k + 1)) j) := Lib.hid (fun j hj => by
            rw [HBS.out j hj, bitW_setL j _ HMP.out.2.2.1]
            have h1 := HSV.out
            have h2 := HD.out
            have h3 := HQ0.out
            by_cases e : j = s / 16
            · rw [if_pos ⟨List.mem_singleton.2 (by omega), hj⟩]
              have : lf j = 0 ∧ s / 16 = j := ⟨by rw [e]; omega, e.symm⟩
              simp [this]
            · rw [if_neg (fun hc => e (by have := List.mem_singleton.1 hc.1; omega))]
              have : ¬ (lf j = 0 ∧ s / 16 = j) := fun hc => e hc.2.symm
              simp [this])
          have HM6 := Lib.hid hm6
          have HB6 := Lib.hid ((HWR.out.alloc HWR.out.size (.cells #[.int .i64 D] 3)).trans (grownBy_below hg6 HGW.out (by have := HWR.out.size; simp; omega)))
          clear hb5 hm6 hg6
          go_wp2
          go_roundw
          case rel => exact ⟨k + 1, _, by go_num, HQ.out, HM6.out, HN2.out, HB6.out⟩
          case measure => have := HQ.out; (try simp [intOf]) <;> omega
        · have t1 : (V == 0) = false := by simp [q]
          have HN2 : Hid (∀ j, j < 16 → bitW ws j = needB lf (Q.take (k + 1)) j) := Lib.hid (fun j hj => by
            rw [HBS.out j hj]
            have : ¬ (lf j = 0 ∧ s / 16 = j) := fun hc => q (by rw [← HSV.out.2.2, hc.2, hc.1]; rfl)
            simp [this])
          clear q
          go_wp2
          go_roundw
          case rel => exact ⟨k + 1, ws, by go_num, HQ.out, HMP.out, HN2.out, HWR.out⟩
          case measure => have := HQ.out; (try simp [intOf]) <;> omega
    · have i1 : ¬ ((k : Int) < (m : Int)) := by omega
      have HP : Hid (((popL ws : Nat) : Int) = N) := Lib.hid (by
        rw [pop16 hm.2.2.1, ← HN.out, needN]
        congr 1
        have e : Q.take k = Q := List.take_of_length_le (by have := HM.out; omega)
        rw [e] at hb
        exact List.countP_congr fun i hi => by rw [hb i (List.mem_range.1 hi)])
      clear hm hb hwr hk q
      go_wp2_with fail
      refine (count_lit _ gm gw 16 ws N HP.out HMP.out).mono ?_
      rintro e w' ⟨rfl, hw⟩
      have hw2 := hw.symm
      clear hw
      subst hw2
      go_wp2
      go_ret
      exact ⟨rfl, HWR.out⟩
end
end Go.Proofs.YtflkoabgkgegjaaGreatDoor
/- The plain law of a table that is alone in its pool. No condition. -/
namespace Go.Proofs.YtflkoabgkgegjaaGreatDoor

theorem full_none {top : Nat} {l : List Tl} (h : takeC top l 0 = (0, 4, l)) : ∀ t ∈ l, t.2 = false := fun t ht => by
  cases hf : t.2 with
  | false => rfl
  | true =>
    unfold takeC at h
    rw [if_neg (by omega)] at h
    cases hb : best (0 : Int).toNat l with
    | none =>
      have := best_none hb t ht hf
      simp at this
    | some k =>
      rw [hb] at h
      injection h with _ h
      injection h with h _
      cases h
theorem span_used : ∀ (p : Nat) (l : List Tl), (∀ t ∈ l, t.2 = false) → (∀ x ∈ blks false p l, x.2 = 0) → span l = (blks false p l).length
  | _, [], _, _ => rfl
  | p, t :: l, h1, h2 => by
    have e := h1 t List.mem_cons_self
    have hb : blks false p (t :: l) = (p, t.1) :: blks false (p + 2 ^ t.1) l := by simp only [blks]; rw [if_pos e]
    have h3 := h2 (p, t.1) (by rw [hb]; exact List.mem_cons_self)
    simp only at h3
    have ih := span_used (p + 2 ^ t.1) l (fun x hx => h1 x (List.mem_cons_of_mem _ hx)) (fun x hx => h2 x (by rw [hb]; exact List.mem_cons_of_mem _ hx))
    rw [hb, List.length_cons, ← ih, span, h3]
    omega
theorem rising_le : ∀ (L M : List Nat), L.Pairwise (· < ·) → (∀ x ∈ L, x ∈ M) → L.length ≤ M.length
  | [], M, _, _ => Nat.zero_le _
  | x :: L, M, h1, h2 => by
    obtain ⟨h3, h4⟩ := List.pairwise_cons.1 h1
    have hx := h2 x List.mem_cons_self
    have ih := rising_le L (M.erase x) h4 fun y hy => (List.mem_erase_of_ne (by have := h3 y hy; omega)).2 (h2 y (List.mem_cons_of_mem _ hy))
    have := List.length_erase_of_mem hx
    have := List.length_pos_of_mem hx
    rw [List.length_cons]
    omega
theorem leaves_count (lf : Nat → Nat) (k : Nat) : (leavesL lf k).length = (List.range k).countP fun j => lf j != 0 := by
  unfold leavesL
  rw [List.length_map, List.countP_eq_length_filter]
theorem leaves_up {lf : Nat → Nat} {j x : Nat} (hj : j < 16) (h0 : lf j = 0) (hx : x ≠ 0) : (leavesL (updF lf j x) 16).length = (leavesL lf 16).length + 1 := by
  rw [leaves_count, leaves_count, countP_turn (fun i => lf i != 0) (fun i => updF lf j x i != 0) j (fun i hi => by rw [updF_other _ _ hi]) (by simp [h0]) (by rw [updF_same]; simp [hx]) 16, if_pos hj]
theorem leaves_down {lf : Nat → Nat} {j : Nat} (hj : j < 16) (h0 : lf j ≠ 0) : (leavesL (updF lf j 0) 16).length + 1 = (leavesL lf 16).length := by
  rw [leaves_count, leaves_count, countP_turn (fun i => updF lf j 0 i != 0) (fun i => lf i != 0) j (fun i hi => by rw [updF_other _ _ hi]) (by rw [updF_same]; rfl) (by simp [h0]) 16, if_pos hj]
/-- the table is alone in its pool, and each leaf has an entry -/
structure Alone (l : List Tl) (P : Nat → List Pg) (lf A : Nat → Nat) (C : Nat) : Prop where
  up : ∀ x ∈ blks false 0 l, x.2 = 0 ∧ ∃ k ∈ cls, ∃ p ∈ P k, p.q = x.1
  p2 : (P 2).length ≤ 1
  pk : ∀ k ∈ cls, k ≠ 2 → k ≠ 7 → P k = []
  ex : ∀ y, y ∈ usedC (mC 7) (szC 7) (P 7) ↔ ∃ j, j < 16 ∧ lf j ≠ 0 ∧ y = ((lf j : Nat) : Int)
  full : ∀ j, j < 16 → lf j ≠ 0 → ∃ i, i < 16 ∧ A (16 * j + i) ≠ 0
  cost : C = 128 + 256 * (leavesL lf 16).length
section
variable {l : List Tl} {P : Nat → List Pg} {lf A : Nat → Nat} {C : Nat}
theorem Alone.pages7 (h : Alone l P lf A C) (hl : FLay l P) (hr : RisesQ (P 7)) : (P 7).length ≤ 16 := by
  have := rising_le ((P 7).map Pg.q) ((List.range 16).map fun j => lf j / 1024) (by rw [List.pairwise_map]; exact hr) fun q hq => by
    obtain ⟨p, hp, rfl⟩ := List.mem_map.1 hq
    obtain ⟨i, hi, hb⟩ := (hl.lay 7 seven_mem).some p hp
    obtain ⟨j, hj, hn, e⟩ := (h.ex _).1 (mem_usedC.2 ⟨p, hp, i, hi, hb, rfl⟩)
    have hm := (place_mod (q := p.q) (cls_facts 7 seven_mem).2.2.1 (by decide) hi).1
    refine List.mem_map.2 ⟨j, List.mem_range.2 hj, ?_⟩
    rw [← hm]
    congr 1
    omega
  simpa using this
theorem Alone.room (h : Alone l P lf A C) (hl : FLay l P) (hr : ∀ k ∈ cls, RisesQ (P k)) (hg : Good 6 l) : takeC 6 l 0 ≠ (0, 4, l) := fun hc => by
  have h1 := full_none hc
  have h2 := span_used 0 l h1 (fun x hx => (h.up x hx).1)
  have h3 := hg.all
  have h4 := rising_le ((blks false 0 l).map Prod.fst) ((P 2).map Pg.q ++ (P 7).map Pg.q) (by rw [List.pairwise_map]; exact blks_rise false 0 l) fun q hq => by
    obtain ⟨x, hx, rfl⟩ := List.mem_map.1 hq
    obtain ⟨_, k, hk, p, hp, e⟩ := h.up x hx
    rw [← e]
    by_cases e2 : k = 2
    · subst e2
      exact List.mem_append_left _ (List.mem_map_of_mem hp)
    · by_cases e7 : k = 7
      · subst e7
        exact List.mem_append_right _ (List.mem_map_of_mem hp)
      · rw [h.pk k hk e2 e7] at hp
        exact absurd hp List.not_mem_nil
  have h5 := h.pages7 hl (hr 7 seven_mem)
  have h6 := h.p2
  rw [List.length_map, List.length_append, List.length_map, List.length_map] at h4
  have e : (2 : Nat) ^ 6 = 64 := by decide
  rw [e] at h3
  omega
theorem up_take {top M size : Nat} {l' : List Tl} {P : Nat → List Pg} {k : Nat} {P' : List Pg} {at_ er : Int} (hk : k ∈ cls) (h : ∀ x ∈ blks false 0 l, x.2 = 0 ∧ ∃ k ∈ cls, ∃ p ∈ P k, p.q = x.1) (ht : TakeS top M size l (P k) at_ er l' P') : ∀ x ∈ blks false 0 l', x.2 = 0 ∧ ∃ j ∈ cls, ∃ p ∈ updF P k P' j, p.q = x.1 := by
  have lift : (∀ p ∈ P k, ∃ p' ∈ P', p'.q = p.q) → ∀ x ∈ blks false 0 l, x.2 = 0 ∧ ∃ j ∈ cls, ∃ p ∈ updF P k P' j, p.q = x.1 := fun hp x hx => by
    obtain ⟨h1, j, hj, p, hpj, e⟩ := h x hx
    refine ⟨h1, j, hj, ?_⟩
    by_cases e2 : j = k
    · subst e2
      obtain ⟨p', hp', e3⟩ := hp p hpj
      exact ⟨p', by rw [updF_same]; exact hp', by rw [e3, e]⟩
    · exact ⟨p, by rw [updF_other _ _ e2]; exact hpj, e⟩
  cases ht with
  | old P1 P2 p j hP hf hi him =>
    refine lift fun y hy => ?_
    rw [hP] at hy
    rcases List.mem_append.1 hy with hy | hy
    · exact ⟨y, List.mem_append_left _ hy, rfl⟩
    · rcases List.mem_cons.1 hy with rfl | hy
      · exact ⟨_, List.mem_append_right _ List.mem_cons_self, rfl⟩
      · exact ⟨y, List.mem_append_right _ (List.mem_cons_of_mem _ hy), rfl⟩
  | none hf hc => exact lift fun y hy => ⟨y, hy, rfl⟩
  | new hf q kk a d hld hq hc i hi hpo p hp hw =>
    intro x hx
    have hsub : ∀ y ∈ P k, ∃ p' ∈ (P k).take i ++ p :: (P k).drop i, p'.q = y.q := fun y hy => by
      rw [← List.take_append_drop i (P k)] at hy
      rcases List.mem_append.1 hy with hy | hy
      · exact ⟨y, List.mem_append_left _ hy, rfl⟩
      · exact ⟨y, List.mem_append_right _ (List.mem_cons_of_mem _ hy), rfl⟩
    rw [used_take] at hx
    have hold := lift hsub
    rw [hld, used_free] at hold
    rcases List.mem_append.1 hx with h1 | h1
    · exact hold x (List.mem_append_left _ h1)
    · rcases List.mem_cons.1 h1 with rfl | h1
      · exact ⟨rfl, k, hk, p, by rw [updF_same]; exact List.mem_append_right _ List.mem_cons_self, by rw [hp, hq]⟩
      · exact hold x (List.mem_append_right _ h1)
theorem up_give' {top : Nat} {l' : List Tl} {P : Nat → List Pg} {k : Nat} {P' : List Pg} (hk : k ∈ cls) (h : ∀ x ∈ blks false 0 l, x.2 = 0 ∧ ∃ k ∈ cls, ∃ p ∈ P k, p.q = x.1)
    (hc : (l' = l ∧ P'.map Pg.q = (P k).map Pg.q) ∨ ∃ P1 p P2, P k = P1 ++ p :: P2 ∧ P' = P1 ++ P2 ∧ ∃ a d, l = a ++ (0, false) :: d ∧ p.q = span a ∧ l' = melt top a.reverse 0 d) : ∀ x ∈ blks false 0 l', x.2 = 0 ∧ ∃ j ∈ cls, ∃ p ∈ updF P k P' j, p.q = x.1 := by
  rcases hc with ⟨rfl, e⟩ | ⟨P1, p, P2, hP, rfl, a, d, rfl, hp, rfl⟩
  · intro x hx
    obtain ⟨h1, j, hj, p, hpj, e3⟩ := h x hx
    refine ⟨h1, j, hj, ?_⟩
    by_cases e2 : j = k
    · subst e2
      have hm : p.q ∈ P'.map Pg.q := by rw [e]; exact List.mem_map_of_mem hpj
      obtain ⟨p', hp', e4⟩ := List.mem_map.1 hm
      exact ⟨p', by rw [updF_same]; exact hp', by rw [e4, e3]⟩
    · exact ⟨p, by rw [updF_other _ _ e2]; exact hpj, e3⟩
  · intro x hx
    rw [melt_used, List.reverse_reverse, span_rev] at hx
    have hr := blks_rise false 0 (a ++ (0, false) :: d)
    rw [blks_same] at hr h
    have hx2 : x ∈ blks false 0 a ++ (span a, 0) :: blks false (span a + 2 ^ 0) d := by
      rcases List.mem_append.1 hx with h1 | h1
      · exact List.mem_append_left _ h1
      · exact List.mem_append_right _ (List.mem_cons_of_mem _ h1)
    have hne : x.1 ≠ span a := by
      have hr' := List.pairwise_append.1 hr
      rcases List.mem_append.1 hx with h1 | h1
      · have := hr'.2.2 x h1 (span a, 0) List.mem_cons_self
        simp only at this
        omega
      · have := (List.pairwise_cons.1 hr'.2.1).1 x h1
        simp only at this
        omega
    obtain ⟨h1, j, hj, y, hyj, e3⟩ := h x hx2
    refine ⟨h1, j, hj, y, ?_, e3⟩
    by_cases e2 : j = k
    · subst e2
      rw [updF_same]
      rw [hP] at hyj
      rcases List.mem_append.1 hyj with h2 | h2
      · exact List.mem_append_left _ h2
      · rcases List.mem_cons.1 h2 with rfl | h2
        · exact absurd (by rw [← e3, hp]) hne
        · exact List.mem_append_right _ h2
    · rw [updF_other _ _ e2]
      exact hyj
end
end Go.Proofs.YtflkoabgkgegjaaGreatDoor
