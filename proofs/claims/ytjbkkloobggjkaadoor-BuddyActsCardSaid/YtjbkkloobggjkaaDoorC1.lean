/- The acts; Same of two alike lists; cover. Condition: the lists are read. -/
import Derived.Test.YtjbkkloobggjkaaDoorB13
namespace Go.Proofs.YtjbkkloobggjkaaDoor
open Go.RowKit Go.Maps

theorem below_drewN {B : Nat} {a w : World} (h : Below B a w) (n : Nat) : Below B a (w.drewN n) := ⟨h.os, h.tape, h.output, h.size, h.block⟩
def actCells (l : List (Int × Int)) : List Value := l.flatMap fun x => [.int .i64 x.1, .int .i64 x.2]
theorem actCells_length : ∀ l : List (Int × Int), (actCells l).length = l.length * 2
  | [] => rfl
  | x :: l => by
    have := actCells_length l
    simp only [actCells, List.flatMap_cons, List.length_append, List.length_cons, List.length_nil] at this ⊢
    omega
theorem actCells_at : ∀ (l : List (Int × Int)) (k : Nat) (x : Int × Int), l[k]? = some x → (actCells l)[k * 2]? = some (.int .i64 x.1) ∧ (actCells l)[k * 2 + 1]? = some (.int .i64 x.2)
  | [], k, x, h => by simp at h
  | y :: l, 0, x, h => by
    simp only [List.getElem?_cons_zero, Option.some.injEq] at h
    subst h
    exact ⟨rfl, rfl⟩
  | y :: l, k + 1, x, h => by
    have := actCells_at l k x (by simpa using h)
    simp only [actCells, List.flatMap_cons] at this ⊢
    rw [show (k + 1) * 2 = k * 2 + 2 by omega, show k * 2 + 2 + 1 = k * 2 + 1 + 2 by omega]
    exact this
theorem SlR.act {w : World} {A : Option Addr} {l : List (Int × Int)} (h : SlR w A (actCells l)) {k : Nat} (hk : k < l.length) : ∃ b off, A = some ⟨b, off, none⟩ ∧ b < w.heap.size ∧ w.cell? ⟨b, off + k * 2, none⟩ = some (.int .i64 l[k].1) ∧ w.cell? ⟨b, off + k * 2 + 1, none⟩ = some (.int .i64 l[k].2) := by
  obtain ⟨b, off, e, hlt, hc⟩ := h (fun e => by have := actCells_length l; rw [e] at this; simp at this; omega)
  have h2 := actCells_at l k l[k] (List.getElem?_eq_getElem hk)
  exact ⟨b, off, e, hlt, hc _ _ h2.1, by rw [Nat.add_assoc]; exact hc _ _ h2.2⟩
theorem run_neq_blk (x y : Int) (w : World) : (binOp .neq 44 (.agg #[.int .i64 x, .int .i64 y]) (.agg #[.int .i64 x, .int .i64 y])).run Tryd.prog w = .ok (.bool false) w := by simp [go_sem]
set_option maxRecDepth 100000 in
theorem same_b (L : List (Nat × Nat)) (m : Nat) (hm : m = L.length) (A B : Option Addr) (ca cb : Nat) (w : World) (hA : SlR w A (bCells L)) (hB : SlR w B (bCells L)) (hl : m ≤ 1073741824) :
    Calls Tryd.prog 22 #[.slice A m ca, .slice B m cb] w fun e w' => e = .returned (.bool true) ∧ Below w.heap.size w w' := by
  have HA := Lib.hid hA
  have HB := Lib.hid hB
  have HM := Lib.hid hm
  have HL := Lib.hid hl
  clear hA hB hm hl
  go_enter Tryd.func22, Tryd.ntmps22
  go_wp2_with fail
  go_loopw [5] (fun i wr => ∃ k : Nat, k ≤ m ∧ i = .int .i64 k ∧ Below w.heap.size w wr) (fun i _ => m - (intOf i).toNat)
  case atStart => exact ⟨0, Nat.zero_le _, rfl, Below.refl _ _⟩
  case round =>
    obtain ⟨k, hk, rfl, hwr⟩ := hrel
    have Hwr := Lib.hid hwr
    by_cases hlt : k < m
    · have hlt2 : k < L.length := by rw [← HM.out]; exact hlt
      obtain ⟨b, off, rfl, _, q1, q2⟩ := (HA.out.below hwr).blk' hlt2
      obtain ⟨b2, off2, rfl, _, q3, q4⟩ := (HB.out.below hwr).blk' hlt2
      obtain ⟨x, hx⟩ : ∃ x : Int, ((1024 * L[k].1 : Nat) : Int) = x := ⟨_, rfl⟩
      obtain ⟨y, hy⟩ : ∃ y : Int, (L[k].2 : Int) = y := ⟨_, rfl⟩
      rw [hx] at q1 q3
      rw [hy] at q2 q4
      have rn := run_neq_blk x y
      have i1 : (0 : Int) ≤ (k : Int) := Int.natCast_nonneg _
      have i2 : (k : Int) < (m : Int) := by omega
      have zk : IntKind.i64.wrap ((k : Int) + 1) = (k : Int) + 1 := by rw [IntKind.wrap_i64]; have := HL.out; omega
      clear hwr hx hy hlt2
      go_wp2_with fail
      go_quiet (fail)
      go_wp2
      go_roundw
      case rel => exact ⟨k + 1, by omega, by go_num, below_drewN Hwr.out nq⟩
      case measure => (try simp [intOf]) <;> omega
    · have q : ¬ ((k : Int) < (m : Int)) := by omega
      clear hwr
      go_wp2
      go_ret
      exact ⟨rfl, Hwr.out⟩
theorem BG.len {W w : World} {S : List (Option Addr × List Value)} {b top : Nat} {gm gw : Nat → Nat} {mu n : Nat} {l : List Tl} (h : BG W S w b top gm gw mu n l) (f : Bool) : (blks f 0 l).length ≤ 1048576 := by
  have h1 := blks_length f 0 l
  have h2 := h.good.all
  have h3 : 2 ^ top ≤ 2 ^ 20 := Nat.pow_le_pow_right (by decide) h.tle
  omega
theorem same_g {W w : World} {S : List (Option Addr × List Value)} {b top : Nat} {gm gw : Nat → Nat} {mu n : Nat} {l : List Tl} (h : BG W S w b top gm gw mu n l) (L : List (Nat × Nat)) (A B : Option Addr) (hA : (A, bCells L) ∈ S) (hB : (B, bCells L) ∈ S) (m ca cb : Nat) (hm : m = L.length) (hl : L.length ≤ 1048576) :
    Calls Tryd.prog 22 #[.slice A m ca, .slice B m cb] w fun e w' => e = .returned (.bool true) ∧ BG W S w' b top gm gw mu n l ∧ Below w.heap.size w w' :=
  (same_b L m hm A B ca cb w (h.held hA).sl (h.held hB).sl (by omega)).mono fun e w' ⟨he, hb⟩ => ⟨he, h.below hb, hb⟩
theorem run_shlu (x : Nat) (o : Nat) (X O Z : Int) (hX : X = (x : Int)) (hO : O = (o : Int)) (hZ : Z = ((x * 2 ^ o : Nat) : Int)) (hb : x * 2 ^ o < 4611686018427387904) (ho : o < 64) (w : World) : (Op.shift .shl .i64 X .u64 O).run Tryd.prog w = .ok (.int .i64 Z) w := run_shl x o X O Z hX hO hZ hb ho w
theorem get_at {x : Nat × Nat} {A B : List (Nat × Nat)} {i : Nat} (hi : i = A.length) : (A ++ x :: B)[i]? = some x := by
  subst hi
  simp
set_option maxRecDepth 100000 in
set_option maxHeartbeats 3200000 in
theorem cover_b (l : List Tl) (top : Nat) (ht : top ≤ 20) (hg : Good top l) (N : Int) (hN : N = ((1024 * 2 ^ top : Nat) : Int)) (A B : Option Addr) (m1 m2 ca cb : Nat) (h1 : m1 = (blks true 0 l).length) (h2 : m2 = (blks false 0 l).length) (w : World) (hA : SlR w A (bCells (blks true 0 l))) (hB : SlR w B (bCells (blks false 0 l))) :
    Calls Tryd.prog 23 #[.int .i64 N, .slice A m1 ca, .slice B m2 cb] w fun e w' => e = .returned (.bool true) ∧ w' = w := by
  have HA := Lib.hid hA
  have HB := Lib.hid hB
  have HN := Lib.hid hN
  have HG := Lib.hid hg
  have HM1 := Lib.hid h1
  have HM2 := Lib.hid h2
  have l1 := blks_length true 0 l
  have l2 := blks_length false 0 l
  have hp := hg.all
  have htp : 2 ^ top ≤ 2 ^ 20 := Nat.pow_le_pow_right (by decide) ht
  have HLE : Hid (m1 ≤ 1048576 ∧ m2 ≤ 1048576 ∧ 2 ^ top ≤ 1048576) := Lib.hid (by omega)
  clear hA hB hN hg h1 h2 l1 l2 hp htp
  go_enter Tryd.func23, Tryd.ntmps23
  go_wp2
  go_loopw [7, 8, 9] (fun at_ i k wr => wr = w ∧ ∃ p s : List Tl, l = p ++ s ∧ at_ = .int .i64 ((1024 * span p : Nat) : Int) ∧ i = .int .i64 ((blks true 0 p).length : Int) ∧ k = .int .i64 ((blks false 0 p).length : Int)) (fun _ i k _ => m1 + m2 - ((intOf i).toNat + (intOf k).toNat))
  case atStart => exact ⟨rfl, [], l, rfl, rfl, rfl, rfl⟩
  case round =>
    obtain ⟨rfl, p, s, hl, rfl, rfl, rfl⟩ := hrel
    have e1 : blks true 0 l = blks true 0 p ++ blks true (span p) s := by rw [hl, blks_append, Nat.zero_add]
    have e2 : blks false 0 l = blks false 0 p ++ blks false (span p) s := by rw [hl, blks_append, Nat.zero_add]
    have hsp : span p + span s = 2 ^ top := by rw [← span_append, ← hl]; exact HG.out.all
    obtain ⟨i, hi⟩ : ∃ i, (blks true 0 p).length = i := ⟨_, rfl⟩
    obtain ⟨k, hk⟩ : ∃ k, (blks false 0 p).length = k := ⟨_, rfl⟩
    obtain ⟨X, hX⟩ : ∃ X : Int, ((1024 * span p : Nat) : Int) = X := ⟨_, rfl⟩
    have HKM : Hid (i ≤ m1 ∧ k ≤ m2) := Lib.hid (by rw [HM1.out, HM2.out, e1, e2, List.length_append, List.length_append]; omega)
    have i0 : (0 : Int) ≤ (i : Int) := by omega
    have k0 : (0 : Int) ≤ (k : Int) := by omega
    have hle := HLE.out
    have zi : Hid (i < m1 → IntKind.i64.wrap ((i : Int) + 1) = (i : Int) + 1) := Lib.hid fun h => by rw [IntKind.wrap_i64]; omega
    have zk : Hid (k < m2 → IntKind.i64.wrap ((k : Int) + 1) = (k : Int) + 1) := Lib.hid fun h => by rw [IntKind.wrap_i64]; omega
    rw [hi, hk, hX]
    cases s with
    | nil =>
      have q1 : decide (X < N) = false := decide_eq_false (by rw [HN.out, ← hX]; simp only [span] at hsp; omega)
      have q2 : (X == N) = true := by simp only [beq_iff_eq]; rw [HN.out, ← hX]; simp only [span] at hsp; omega
      have q3 : ((i : Int) == (m1 : Int)) = true := by
        have := HM1.out
        rw [e1] at this
        simp only [blks, List.append_nil] at this
        simp only [beq_iff_eq]; omega
      have q4 : ((k : Int) == (m2 : Int)) = true := by
        have := HM2.out
        rw [e2] at this
        simp only [blks, List.append_nil] at this
        simp only [beq_iff_eq]; omega
      clear hl e1 e2 hsp hi hk hX hle i0 k0
      go_wp2
      go_ret
      exact ⟨rfl, rfl⟩
    | cons t s =>
      have hd2 : 2 ^ t.1 + span s + span p = 2 ^ top := by simp only [span] at hsp; omega
      have tp := two_pos t.1
      have q1 : decide (X < N) = true := decide_eq_true (by rw [HN.out, ← hX]; omega)
      have t20 : t.1 ≤ 20 := Nat.le_trans (HG.out.le t (by rw [hl]; simp)) ht
      obtain ⟨O, hO⟩ : ∃ O : Int, (t.1 : Int) = O := ⟨_, rfl⟩
      obtain ⟨Z, hZ⟩ : ∃ Z : Int, Z = ((1024 * 2 ^ t.1 : Nat) : Int) := ⟨_, rfl⟩
      obtain ⟨X2, hX2⟩ : ∃ X2 : Int, X + Z = X2 := ⟨_, rfl⟩
      have hX3 : X2 = ((1024 * span (p ++ [t]) : Nat) : Int) := by
        rw [span_append]
        simp only [span]
        omega
      have hs : ∀ w, (Op.shift .shl .i64 1024 .u64 O).run Tryd.prog w = .ok (.int .i64 Z) w := fun w => run_shlu 1024 t.1 _ _ _ rfl hO.symm hZ (by omega) (by omega) w
      have zO : IntKind.u64.wrap O = O := by rw [IntKind.wrap_u64]; omega
      have zX : IntKind.i64.wrap (X + Z) = X2 := by rw [IntKind.wrap_i64]; omega
      have HX3 := Lib.hid hX3
      have HPT : Hid (l = (p ++ [t]) ++ s) := Lib.hid (by rw [hl]; simp)
      have e3 : span (p ++ [t]) = span p + 2 ^ t.1 := by rw [span_append]; simp [span]
      by_cases hf : t.2 = true
      · have b1 : blks true (span p) (t :: s) = (span p, t.1) :: blks true (span p + 2 ^ t.1) s := by simp [blks, hf]
        have b2 : blks true 0 (p ++ [t]) = blks true 0 p ++ [(span p, t.1)] := by rw [blks_append, Nat.zero_add]; simp [blks, hf]
        have b3 : blks false 0 (p ++ [t]) = blks false 0 p := by rw [blks_append, Nat.zero_add]; simp [blks, hf]
        rw [b1] at e1
        have hlt : i < (blks true 0 l).length := by rw [e1]; simp; omega
        have hget : (blks true 0 l)[i] = (span p, t.1) := by
          have := get_at (x := (span p, t.1)) (A := blks true 0 p) (B := blks true (span p + 2 ^ t.1) s) (i := i) hi.symm
          rw [← e1, List.getElem?_eq_getElem hlt] at this
          exact Option.some.inj this
        have hlt2 : i < m1 := by rw [HM1.out]; exact hlt
        obtain ⟨b, off, rfl, _, c0, c1⟩ := HA.out.blk' hlt
        rw [hget] at c0 c1
        simp only [hX, hO] at c0 c1
        have z1 := zi.out hlt2
        have i1 : (i : Int) < (m1 : Int) := by omega
        have HL2 : Hid ((blks true 0 (p ++ [t])).length = i + 1 ∧ (blks false 0 (p ++ [t])).length = k) := Lib.hid (by rw [b2, b3]; simp; omega)
        have HLT := Lib.hid hlt2
        clear hl e1 e2 hsp hi hk hX hle hd2 tp t20 hO hZ hX2 hX3 e3 b1 b2 b3 hlt hget hf hlt2
        go_wp2
        go_roundw
        case rel => exact ⟨by first | rfl | trivial, p ++ [t], s, HPT.out, by rw [HX3.out], by rw [HL2.out.1]; go_num, by rw [HL2.out.2]⟩
        case measure =>
          have := HLT.out
          have z9 := zi.out HLT.out
          have hkm := HKM.out
          simp only [intOf, z9, Int.toNat_natCast]
          omega
      · have hf2 : t.2 = false := by simpa using hf
        have b1 : blks true (span p) (t :: s) = blks true (span p + 2 ^ t.1) s := by simp [blks, hf2]
        have b4 : blks false (span p) (t :: s) = (span p, t.1) :: blks false (span p + 2 ^ t.1) s := by simp [blks, hf2]
        have b2 : blks true 0 (p ++ [t]) = blks true 0 p := by rw [blks_append, Nat.zero_add]; simp [blks, hf2]
        have b3 : blks false 0 (p ++ [t]) = blks false 0 p ++ [(span p, t.1)] := by rw [blks_append, Nat.zero_add]; simp [blks, hf2]
        rw [b4] at e2
        rw [b1] at e1
        have hlt : k < (blks false 0 l).length := by rw [e2]; simp; omega
        have hget : (blks false 0 l)[k] = (span p, t.1) := by
          have := get_at (x := (span p, t.1)) (A := blks false 0 p) (B := blks false (span p + 2 ^ t.1) s) (i := k) hk.symm
          rw [← e2, List.getElem?_eq_getElem hlt] at this
          exact Option.some.inj this
        have hlt2 : k < m2 := by rw [HM2.out]; exact hlt
        obtain ⟨b, off, rfl, _, c0, c1⟩ := HB.out.blk' hlt
        rw [hget] at c0 c1
        simp only [hX, hO] at c0 c1
        have z1 := zk.out hlt2
        have i1 : (k : Int) < (m2 : Int) := by omega
        have HL2 : Hid ((blks true 0 (p ++ [t])).length = i ∧ (blks false 0 (p ++ [t])).length = k + 1) := Lib.hid (by rw [b2, b3]; simp; omega)
        have HLT := Lib.hid hlt2
        by_cases hia : i < m1
        · have hia2 : i < (blks true 0 l).length := by rw [← HM1.out]; exact hia
          obtain ⟨b', off', rfl, _, d0, d1⟩ := HA.out.blk' hia2
          have hgt : span p < ((blks true 0 l)[i]).1 := by
            have hm : (blks true 0 l)[i] ∈ blks true (span p + 2 ^ t.1) s := by
              simp only [e1]
              rw [List.getElem_append_right (by omega)]
              exact List.getElem_mem _
            have := (blks_lt hm).1
            omega
          obtain ⟨Y, hY⟩ : ∃ Y : Int, ((1024 * ((blks true 0 l)[i]).1 : Nat) : Int) = Y := ⟨_, rfl⟩
          rw [hY] at d0
          have q5 : (Y == X) = false := by simp only [beq_eq_false_iff_ne, ne_eq]; omega
          have i2 : (i : Int) < (m1 : Int) := by omega
          clear hl e1 e2 hsp hi hk hX hle hd2 tp t20 hO hZ hX2 hX3 e3 b1 b2 b3 b4 hlt hget hf hlt2 hf2 hia hia2 d1 hgt hY
          go_wp2
          go_roundw
          case rel => exact ⟨by first | rfl | trivial, p ++ [t], s, HPT.out, by rw [HX3.out], by rw [HL2.out.1], by rw [HL2.out.2]; go_num⟩
          case measure =>
            have := HLT.out
            have z9 := zk.out HLT.out
            have hkm := HKM.out
            simp only [intOf, z9, Int.toNat_natCast]
            omega
        · have i2 : ¬ ((i : Int) < (m1 : Int)) := by omega
          clear hl e1 e2 hsp hi hk hX hle hd2 tp t20 hO hZ hX2 hX3 e3 b1 b2 b3 b4 hlt hget hf hlt2 hf2 hia
          go_wp2
          go_roundw
          case rel => exact ⟨by first | rfl | trivial, p ++ [t], s, HPT.out, by rw [HX3.out], by rw [HL2.out.1], by rw [HL2.out.2]; go_num⟩
          case measure =>
            have := HLT.out
            have z9 := zk.out HLT.out
            have hkm := HKM.out
            simp only [intOf, z9, Int.toNat_natCast]
            omega
end Go.Proofs.YtjbkkloobggjkaaDoor
