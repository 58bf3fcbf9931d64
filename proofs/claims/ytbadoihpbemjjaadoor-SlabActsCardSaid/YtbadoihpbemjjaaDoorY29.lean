/- What an argument that is a slice of acts is in memory. No condition. And what follows from it. -/
import Derived.Test.YtbadoihpbemjjaaDoorY22
import Derived.Test.YtbadoihpbemjjaaDoorY28
import Derived.Test.YtbadoihpbemjjaaDoorY13
/- What an argument that is a slice of acts is in memory. No condition. -/
namespace Go.Proofs.YtbadoihpbemjjaaDoor
open Go.ChangeShapes Go.WideShapes Go.ChangeAt Go.RowKit Go.Deep

section
variable {H : Type} {enc : TypeId × Value → H} {w : World} {base : Nat} {spare : Nat → Bool} {held : Bool}
/- an act, as two cells read -/
set_option maxRecDepth 100000 in
theorem open_act {fuel : Nat} {cs : List Value} {x : DataW H × List MemPlace} (h : DataW.trod enc Tryd.prog w base spare held fuel 45 cs = some x) :
    ∃ (f g : Int), cs = [.int .i64 f, .int .i64 g] ∧ (Lit.int .i64 g).wf = true := by
  obtain ⟨xs, n, _, _, hc, hlen, hf⟩ := DataW.trod_struct Tryd.underlying45 h
  have hsz : cs.length = 2 := hc.trans (by kernel_rfl)
  match cs, hsz with
  | [v0, v1], _ =>
    have hx : xs.length = 2 := hlen
    match xs, hx with
    | [y0, y1], _ =>
      have c3 : Tryd.prog.cellsOf 3 = 1 := by kernel_rfl
      have h0 := hf 0 _ rfl
      have h1 := hf 1 _ rfl
      simp [c3] at h0 h1
      obtain ⟨f, e2, _, _⟩ := DataW.trod_int Tryd.underlying3 (h0.trans rfl)
      obtain ⟨g, e3, _, hw⟩ := DataW.trod_int Tryd.underlying3 (h1.trans rfl)
      simp at e2 e3
      exact ⟨f, g, by simp [e2, e3], hw⟩
/- a slice of acts -/
set_option maxRecDepth 100000 in
theorem open_acts {fuel : Nat} {v : Value} {x : DataW H × List MemPlace} (h : DataW.trod enc Tryd.prog w base spare held fuel 37 [v] = some x) :
    ∃ (l : List (Int × Int)) (A : Option Addr) (cap : Nat), v = .slice A l.length cap ∧ SlR w A (actCells l) ∧ ∀ x ∈ l, (Lit.int .i64 x.2).wf = true := by
  rcases open_slice Tryd.underlying37 h with ⟨hcs, _⟩ | ⟨a, len, cap, m, n, D, Pl, hcs, _, hl, hm, hmm, _, hi⟩
  · injection hcs with hv
    exact ⟨[], none, 0, hv, SlR.nil _ _, fun x hx => absurd hx List.not_mem_nil⟩
  · injection hcs with hv
    have hlm : len ≤ m := by rw [hmm]; split <;> omega
    have c4 : Tryd.prog.cellsOf 45 = 2 := by kernel_rfl
    have each : ∀ i, i < len → ∃ (y : Int × Int), w.cell? (a.add (i * 2)) = some (.int .i64 y.1) ∧ w.cell? (a.add (i * 2 + 1)) = some (.int .i64 y.2) ∧ (Lit.int .i64 y.2).wf = true := by
      intro i hil
      obtain ⟨cs', hc, ht⟩ := hi i (by omega)
      rw [c4] at hc
      obtain ⟨f, g, rfl, hw⟩ := open_act ht
      obtain ⟨_, _, hat⟩ := World.cells?_some hc
      refine ⟨(f, g), ?_, ?_, hw⟩
      · have := hat 0 (by omega)
        rw [Go.Deep.add_add] at this
        exact this
      · have := hat 1 (by omega)
        rw [Go.Deep.add_add] at this
        exact this
    have hch : ∃ Y : Nat → Int × Int, ∀ i, i < len → w.cell? (a.add (i * 2)) = some (.int .i64 (Y i).1) ∧ w.cell? (a.add (i * 2 + 1)) = some (.int .i64 (Y i).2) ∧ (Lit.int .i64 (Y i).2).wf = true := by
      refine ⟨fun i => if h : i < len then (each i h).choose else (0, 0), fun i hil => ?_⟩
      simp only [dif_pos hil]
      exact (each i hil).choose_spec
    obtain ⟨Y, hY⟩ := hch
    refine ⟨(List.range len).map Y, some a, cap, by rw [List.length_map, List.length_range]; exact hv, fun hne => ?_, fun x hx => ?_⟩
    · have h0 : 0 < len := by
        rcases Nat.eq_zero_or_pos len with h0 | h0
        · exfalso; apply hne; subst h0; rfl
        · exact h0
      obtain ⟨ea, hb⟩ := addr_of_cell (hY 0 h0).1
      have ea' : a = ⟨a.block, a.off, none⟩ := by
        obtain ⟨b, o, s⟩ := a
        simpa [Addr.add] using ea
      refine ⟨a.block, a.off, by rw [← ea'], by simpa [Addr.add] using hb, fun j u hu => ?_⟩
      have hj : j < len * 2 := by
        have := actCells_length ((List.range len).map Y)
        simp only [List.length_map, List.length_range] at this
        rcases Nat.lt_or_ge j (len * 2) with h1 | h1
        · exact h1
        · rw [List.getElem?_eq_none (by omega)] at hu; cases hu
      have hq : j / 2 < len := by omega
      have hat := actCells_at ((List.range len).map Y) (j / 2) (Y (j / 2)) (by simp [hq])
      obtain ⟨g1, g2, _⟩ := hY (j / 2) hq
      rw [ea', add_off] at g1 g2
      by_cases e : j % 2 = 0
      · have e2 : j / 2 * 2 = j := by omega
        rw [e2] at hat g1
        rw [hat.1] at hu
        rw [← Option.some.inj hu]
        exact g1
      · have e2 : j / 2 * 2 + 1 = j := by omega
        rw [e2] at hat g2
        rw [hat.2] at hu
        rw [← Option.some.inj hu]
        exact g2
    · obtain ⟨i, hi2, rfl⟩ := List.mem_map.1 hx
      exact (hY i (List.mem_range.1 hi2)).2.2
end
end Go.Proofs.YtbadoihpbemjjaaDoor
/- The reference's small functions. Condition: the lists are read. -/
namespace Go.Proofs.YtbadoihpbemjjaaDoor
open Go.RowKit

/-- the size of an order -/
theorem size_r (q : Nat) (hq : q ≤ 20) (Q : Int) (hQ : Q = (q : Int)) (W : World) : Calls Tryd.prog 44 #[.int .i64 Q] W fun e w' => e = .returned (.int .i64 ((1024 * 2 ^ q : Nat) : Int)) ∧ w' = W := by
  have HQ := Lib.hid hQ
  clear hQ
  go_enter Tryd.func44, Tryd.ntmps44
  go_wp2
  go_loopw [3, 4] (fun n i wr => ∃ k : Nat, k ≤ q ∧ n = .int .i64 ((1024 * 2 ^ k : Nat) : Int) ∧ i = .int .i64 (k : Int) ∧ wr = W) (fun _ i _ => q - (intOf i).toNat)
  case atStart => exact ⟨0, Nat.zero_le _, rfl, rfl, rfl⟩
  case round =>
    obtain ⟨k, hk, rfl, rfl, rfl⟩ := hrel
    by_cases hlt : k < q
    · have i1 : decide ((k : Int) < Q) = true := decide_eq_true (by have := HQ.out; omega)
      have i0 : (0 : Int) ≤ (k : Int) := by omega
      obtain ⟨X, hX⟩ : ∃ X : Int, ((1024 * 2 ^ k : Nat) : Int) = X := ⟨_, rfl⟩
      obtain ⟨Y, hY⟩ : ∃ Y : Int, ((1024 * 2 ^ (k + 1) : Nat) : Int) = Y := ⟨_, rfl⟩
      have hp : 2 ^ k ≤ 2 ^ 20 := Nat.pow_le_pow_right (by decide) (by omega)
      have z : IntKind.i64.wrap (X * 2) = Y := by
        rw [← hX, ← hY, Nat.pow_succ, IntKind.wrap_i64]
        omega
      have HY := Lib.hid hY
      rw [hX]
      clear hX hY hp
      go_wp2
      go_roundw
      case rel => exact ⟨k + 1, by omega, by rw [HY.out], by go_num, by first | rfl | trivial⟩
      case measure => (try simp [intOf]) <;> omega
    · have i1 : decide ((k : Int) < Q) = false := decide_eq_false (by have := HQ.out; omega)
      obtain rfl : k = q := by omega
      clear hk hlt
      go_wp2
      go_ret
      exact ⟨rfl, rfl⟩
/-- a block's place among some; none: -1 -/
def FindR (L : List (Nat × Nat)) (x r : Int) : Prop := (r = -1 ∧ ∀ y ∈ L, ((1024 * y.1 : Nat) : Int) ≠ x) ∨ ∃ (k : Nat) (hk : k < L.length), r = (k : Int) ∧ ((1024 * L[k].1 : Nat) : Int) = x
theorem find_r (L : List (Nat × Nat)) (m : Nat) (hm : m = L.length) (hl : m ≤ 1048576) (A : Option Addr) (ca : Nat) (x : Int) (w : World) (hA : SlR w A (bCells L)) :
    Calls Tryd.prog 66 #[.slice A m ca, .int .i64 x] w fun e w' => ∃ r, e = .returned (.int .i64 r) ∧ FindR L x r ∧ w' = w := by
  have HA := Lib.hid hA
  have HM := Lib.hid hm
  have HL := Lib.hid hl
  clear hA hm hl
  go_enter Tryd.func66, Tryd.ntmps66
  go_wp2
  go_loopw [5] (fun i wr => ∃ k : Nat, k ≤ m ∧ i = .int .i64 k ∧ (∀ j (hj : j < L.length), j < k → ((1024 * L[j].1 : Nat) : Int) ≠ x) ∧ wr = w) (fun i _ => m - (intOf i).toNat)
  case atStart => exact ⟨0, Nat.zero_le _, rfl, fun j _ h => absurd h (Nat.not_lt_zero _), rfl⟩
  case round =>
    obtain ⟨k, hk, rfl, hn, rfl⟩ := hrel
    have HNo := Lib.hid hn
    clear hn
    by_cases hlt : k < m
    · have hlt2 : k < L.length := by rw [← HM.out]; exact hlt
      obtain ⟨b, off, rfl, _, q1, q2⟩ := HA.out.blk' hlt2
      obtain ⟨X, hX⟩ : ∃ X : Int, ((1024 * L[k].1 : Nat) : Int) = X := ⟨_, rfl⟩
      have HX := Lib.hid hX
      rw [hX] at q1
      have i1 : (0 : Int) ≤ (k : Int) := Int.natCast_nonneg _
      have i2 : (k : Int) < (m : Int) := by omega
      have zk : IntKind.i64.wrap ((k : Int) + 1) = (k : Int) + 1 := by rw [IntKind.wrap_i64]; have := HL.out; omega
      clear q2 hX
      by_cases hx : X = x
      · have t1 : (X == x) = true := by simpa using hx
        have HR : Hid (FindR L x (k : Int)) := Lib.hid (.inr ⟨k, hlt2, rfl, by rw [HX.out]; exact hx⟩)
        clear hx HX hlt2
        go_wp2
        go_ret
        exact ⟨_, rfl, HR.out, rfl⟩
      · have t1 : (X == x) = false := by simpa using hx
        have HN2 : Hid (∀ j (hj : j < L.length), j < k + 1 → ((1024 * L[j].1 : Nat) : Int) ≠ x) := Lib.hid (fun j hj hjk => by
          by_cases e : j = k
          · subst e
            rw [HX.out]; exact hx
          · exact HNo.out j hj (by omega))
        clear hx HX hlt2
        go_wp2
        go_roundw
        case rel => exact ⟨k + 1, by omega, by go_num, HN2.out, by first | rfl | trivial⟩
        case measure => (try simp [intOf]) <;> omega
    · have q : ¬ ((k : Int) < (m : Int)) := by omega
      have HR : Hid (FindR L x (-1)) := Lib.hid (.inl ⟨rfl, fun y hy => by
        obtain ⟨j, hj, e⟩ := List.getElem_of_mem hy
        rw [← e]
        exact HNo.out j hj (by have := HM.out; omega)⟩)
      clear hk hlt
      go_wp2
      go_ret
      exact ⟨_, rfl, HR.out, rfl⟩
end Go.Proofs.YtbadoihpbemjjaaDoor
/- The reference's cut. Condition: the list is read. -/
namespace Go.Proofs.YtbadoihpbemjjaaDoor
open Go.RowKit

theorem add_plain (b off d : Nat) : (⟨b, off, none⟩ : Addr).add d = ⟨b, off + d, none⟩ := by unfold Addr.add; split <;> simp_all
theorem info_blk2 : ∃ i, Tryd.prog.info? 86 = some i ∧ i.size = 2 := by
  obtain ⟨i, h1, _, h2, _⟩ := info_parts info_blk
  exact ⟨i, h1, h2⟩
theorem bCells_take (L : List (Nat × Nat)) (i : Nat) : bCells (L.take i) = (bCells L).take (i * 2) := by
  induction L generalizing i with
  | nil => simp [bCells]
  | cons x L ih =>
    cases i with
    | zero => simp [bCells]
    | succ i =>
      have := ih i
      simp only [bCells, List.take_succ_cons, List.flatMap_cons] at this ⊢
      rw [this, show (i + 1) * 2 = i * 2 + 2 by omega]
      rfl
theorem bCells_drop (L : List (Nat × Nat)) (i : Nat) : bCells (L.drop i) = (bCells L).drop (i * 2) := by
  induction L generalizing i with
  | nil => simp [bCells]
  | cons x L ih =>
    cases i with
    | zero => simp [bCells]
    | succ i =>
      have := ih i
      simp only [bCells, List.drop_succ_cons, List.flatMap_cons] at this ⊢
      rw [this, show (i + 1) * 2 = i * 2 + 2 by omega]
      rfl
/-- the blocks ahead of a place -/
theorem slice_hi (A : Option Addr) (m ca i : Nat) (I : Int) (hI : I = (i : Int)) (hi : i ≤ ca) : ∃ A1, (∀ w, (Instr.slice 33 (.slice A m ca) none (some (.int .i64 I)) none).run Tryd.prog w = .ok (.slice A1 i ca) w) ∧ ∀ w L, SlR w A (bCells L) → SlR w A1 (bCells (L.take i)) := by
  subst hI
  obtain ⟨q, hq, hs⟩ := info_blk2
  have e1 : Tryd.prog.elem 33 = 86 := by simp [Program.elem, Tryd.underlying33]
  refine ⟨if ca = 0 then A else A.map (·.add 0), fun w => ?_, fun w L h => ?_⟩
  · rw [run_slice_h (P := Tryd.prog) (w := w) (t := 33) (a := A) (len := m) (cap := ca) (ht := by rw [e1]; exact Tryd.underlying33) .i64 (i : Int) (by omega) (by omega)]
    simp [sizeOf, typeInfo, e1, hq, hs, sliced, Result.andThen]
  · intro hne
    rw [bCells_take] at hne
    obtain ⟨b, off, rfl, hlt, hc⟩ := h (by rintro e; rw [e] at hne; simp at hne)
    refine ⟨b, off, ?_, hlt, fun j u hu => hc j u ?_⟩
    · split
      · rfl
      · simp [add_plain]
    · rw [bCells_take, List.getElem?_take] at hu
      split at hu
      · exact hu
      · cases hu
/-- the blocks from a place on -/
theorem slice_lo (A : Option Addr) (m ca i : Nat) (I : Int) (hI : I = (i : Int)) (hi : i ≤ m) (hm : m ≤ ca) : ∃ A1, (∀ w, (Instr.slice 33 (.slice A m ca) (some (.int .i64 I)) none none).run Tryd.prog w = .ok (.slice A1 (m - i) (ca - i)) w) ∧ ∀ w L, L.length = m → SlR w A (bCells L) → SlR w A1 (bCells (L.drop i)) := by
  subst hI
  obtain ⟨q, hq, hs⟩ := info_blk2
  have e1 : Tryd.prog.elem 33 = 86 := by simp [Program.elem, Tryd.underlying33]
  refine ⟨if ca = i then A else A.map (·.add (i * 2)), fun w => ?_, fun w L hL h => ?_⟩
  · rw [run_slice_l (P := Tryd.prog) (w := w) (t := 33) (a := A) (len := m) (cap := ca) (ht := by rw [e1]; exact Tryd.underlying33) .i64 (i : Int) (by omega) (by omega)]
    simp [sizeOf, typeInfo, e1, hq, hs, sliced, Result.andThen]
  · intro hne
    have hlen := bCells_length (L.drop i)
    rw [List.length_drop] at hlen
    have hlt2 : i < L.length := by
      rcases Nat.lt_or_ge i L.length with h1 | h1
      · exact h1
      · exfalso
        apply hne
        exact List.eq_nil_of_length_eq_zero (by omega)
    rw [bCells_drop] at hne
    obtain ⟨b, off, rfl, hlt, hc⟩ := h (by rintro e; rw [e] at hne; simp at hne)
    refine ⟨b, off + i * 2, ?_, hlt, fun j u hu => ?_⟩
    · rw [if_neg (by omega)]
      simp [add_plain]
    · rw [bCells_drop, List.getElem?_drop] at hu
      have := hc _ _ hu
      rwa [Nat.add_assoc]
theorem ownsRow_held {w : World} {base : Nat} {A : Option Addr} {n cap : Nat} {L : List (Nat × Nat)} (h : w.ownsRow base 86 2 (.slice A n cap) n (bCells L)) : HeldS w (A, bCells L) := fun hne => by
  rcases h.2 with ⟨hv, h0⟩ | ⟨g, cap', cur, hv, hg, hh, hn, hc, hs, ht⟩
  · exfalso
    apply hne
    have := h.1
    rw [h0, Nat.zero_mul] at this
    exact List.eq_nil_of_length_eq_zero this
  · injection hv with hA
    refine ⟨g, 0, cur, 86, hA, hh, ⟨by decide, (tyOf_bCells _).symm⟩, fun j u hu => ?_⟩
    rw [← ht] at hu
    have hlt : j < n * 2 := by
      rcases Nat.lt_or_ge j (n * 2) with h1 | h1
      · exact h1
      · rw [List.getElem?_eq_none (by rw [List.length_take]; omega)] at hu; cases hu
    rw [List.getElem?_take_of_lt hlt] at hu
    simpa using hu
theorem ownsRow_fresh {w : World} {base : Nat} {A : Option Addr} {n cap : Nat} {xs : List Value} (h : w.ownsRow base 86 2 (.slice A n cap) n xs) : ∀ a, A = some a → base ≤ a.block := fun a e => by
  rcases h.2 with ⟨hv, h0⟩ | ⟨g, cap', cur, hv, hg, _⟩
  · injection hv with hA
    rw [e] at hA
    cases hA
  · injection hv with hA
    rw [e] at hA
    injection hA with hA
    rw [hA]
    exact hg
set_option maxRecDepth 100000 in
set_option maxHeartbeats 1600000 in
theorem cut_r (L : List (Nat × Nat)) (m : Nat) (hm : m = L.length) (hl : m ≤ 1048576) (A : Option Addr) (ca : Nat) (hca : m ≤ ca) (i : Nat) (hi : i < m) (I : Int) (hI : I = (i : Int)) (w : World) (hA : SlR w A (bCells L)) :
    Calls Tryd.prog 49 #[.slice A m ca, .int .i64 I] w fun e w' => ∃ A' n' c', e = .returned (.slice A' n' c') ∧ n' + 1 = m ∧ n' ≤ c' ∧ HeldS w' (A', bCells (L.take i ++ L.drop (i + 1))) ∧ (∀ a, A' = some a → w.heap.size ≤ a.block) ∧ Below w.heap.size w w' := by
  obtain ⟨i0, hi0, hz0, hz1, hz2⟩ := info_parts info_blk
  obtain ⟨J, hJ⟩ : ∃ J : Int, I + 1 = J := ⟨_, rfl⟩
  have zJ : IntKind.i64.wrap (I + 1) = J := by rw [IntKind.wrap_i64]; omega
  obtain ⟨A1, hs1, hr1⟩ := slice_hi A m ca i I hI (by omega)
  obtain ⟨A2, hs2, hr2⟩ := slice_lo A m ca (i + 1) J (by omega) (by omega) hca
  have HR1 := Lib.hid (hr1 _ _ hA)
  have HR2 := Lib.hid (hr2 _ _ hm.symm hA)
  have LT : Hid ((bCells (L.take i)).length = i * 2) := Lib.hid (by rw [bCells_length, List.length_take]; omega)
  have LD : Hid ((bCells (L.drop (i + 1))).length = (m - (i + 1)) * 2) := Lib.hid (by rw [bCells_length, List.length_drop, hm])
  have BD : Hid (i < m ∧ m ≤ 1048576) := Lib.hid ⟨hi, hl⟩
  clear hJ hI hr1 hr2 hA hm hl hca hi
  go_enter Tryd.func49, Tryd.ntmps49
  go_wp2_with fail
  go_region_law (first | ((refine step_app _ rfl (.tmp 5) (.tmp 8) 33 rfl w.heap.size 86 i0 _ 2 16 Tryd.underlying33 hi0 hz0 hz1 hz2 rfl (by omega) (some ⟨w.heap.size, 0, none⟩) 0 0 [] (by simp [Act.eval, Act.put]) (ownsRow_below (World.ownsRow_lit w #[] 0 (Nat.le_refl _) (by decide) rfl) (Below.refl _ _).drew) A1 i ca (bCells (L.take i)) (by simp [Act.eval, Act.put]) LT.out (HR1.out.below ((Below.refl _ _).alloc (Nat.le_refl _) _).drew) (bCells_one _) (by have := BD.out; unfold maxLen; omega) (by have := BD.out; omega) (((Below.refl _ _).alloc (Nat.le_refl _) _).drew).size ?_); intro A3 k3 w3 hown3 hgr3 hb3) | ((refine step_app _ rfl (.tmp 9) (.tmp 13) 33 rfl w.heap.size 86 i0 _ 2 16 Tryd.underlying33 hi0 hz0 hz1 hz2 rfl (by omega) A3 (0 + i) k3 _ (by simp [Act.eval, Act.put]) hown3 A2 (m - (i + 1)) (ca - (i + 1)) (bCells (L.drop (i + 1))) (by simp [Act.eval, Act.put]) LD.out (HR2.out.below ((((Below.refl _ _).alloc (Nat.le_refl _) _).drew).trans hb3)) (bCells_one _) (by have := BD.out; unfold maxLen; omega) (by have := BD.out; omega) (((((Below.refl _ _).alloc (Nat.le_refl _) _).drew).trans hb3)).size ?_); intro A4 k4 w4 hown4 hgr4 hb4))
  all_goals
    have HO : Hid (HeldS w4 (A4, bCells (L.take i ++ L.drop (i + 1)))) := Lib.hid (ownsRow_held (by rw [bCells_app]; exact hown4))
    have HB : Hid (Below w.heap.size w w4) := Lib.hid (((((Below.refl _ _).alloc (Nat.le_refl _) _).drew).trans hb3).trans hb4)
    have HFR : Hid (∀ a, A4 = some a → w.heap.size ≤ a.block) := Lib.hid (ownsRow_fresh hown4)
    have HC : Hid (i + (m - (i + 1)) + 1 = m ∧ i + (m - (i + 1)) ≤ k4) := Lib.hid (by have := ownsRow_le hown4; have := BD.out; omega)
    clear hown3 hgr3 hb3 hown4 hgr4 hb4
    go_wp2
    go_ret
    exact ⟨A4, _, k4, rfl, HC.out.1, HC.out.2, HO.out, HFR.out, HB.out⟩
end Go.Proofs.YtbadoihpbemjjaaDoor
