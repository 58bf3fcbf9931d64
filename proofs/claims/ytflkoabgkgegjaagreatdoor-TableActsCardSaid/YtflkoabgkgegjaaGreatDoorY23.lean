/- The reference's cut. Condition: the list is read. And what follows from it. -/
import Derived.Test.YtflkoabgkgegjaaGreatDoorY22
import Derived.Test.YtflkoabgkgegjaaGreatDoorY9
/- The reference's cut. Condition: the list is read. -/
namespace Go.Proofs.YtflkoabgkgegjaaGreatDoor
open Go.RowKit

theorem add_plain (b off d : Nat) : (⟨b, off, none⟩ : Addr).add d = ⟨b, off + d, none⟩ := by unfold Addr.add; split <;> simp_all
theorem info_blk2 : ∃ i, Tryz.prog.info? 135 = some i ∧ i.size = 2 := by
  obtain ⟨i, h1, _, h2, _⟩ := info_parts info_blk
  exact ⟨i, h1, h2⟩
theorem bCells_take (L : List (Nat × Nat)) (i : Nat) : bCells (L.take i) = (bCells L).take (i * 2) := by
  induction L generalizing i with
  | nil => simp [bCells]
  | cons x L ih =>
    cases i with
    | zero => simp [bCells]
    | succ i =>
      have := ih i
      simp only [bCells, List.take_succ_cons, List.flatMap_cons] at this ⊢
      rw [this, show (i + 1) * 2 = i * 2 + 2 by omega]
      rfl
theorem bCells_drop (L : List (Nat × Nat)) (i : Nat) : bCells (L.drop i) = (bCells L).drop (i * 2) := by
  induction L generalizing i with
  | nil => simp [bCells]
  | cons x L ih =>
    cases i with
    | zero => simp [bCells]
    | succ i =>
      have := ih i
      simp only [bCells, List.drop_succ_cons, List.flatMap_cons] at this ⊢
      rw [this, show (i + 1) * 2 = i * 2 + 2 by omega]
      rfl
/-- the blocks ahead of a place -/
theorem slice_hi (A : Option Addr) (m ca i : Nat) (I : Int) (hI : I = (i : Int)) (hi : i ≤ ca) : ∃ A1, (∀ w, (Instr.slice 136 (.slice A m ca) none (some (.int .i64 I)) none).run Tryz.prog w = .ok (.slice A1 i ca) w) ∧ ∀ w L, SlR w A (bCells L) → SlR w A1 (bCells (L.take i)) := by
  subst hI
  obtain ⟨q, hq, hs⟩ := info_blk2
  have e1 : Tryz.prog.elem 136 = 135 := by simp [Program.elem, Tryz.underlying136]
  refine ⟨if ca = 0 then A else A.map (·.add 0), fun w => ?_, fun w L h => ?_⟩
  · rw [run_slice_h (P := Tryz.prog) (w := w) (t := 136) (a := A) (len := m) (cap := ca) (ht := by rw [e1]; exact Tryz.underlying136) .i64 (i : Int) (by omega) (by omega)]
    simp [sizeOf, typeInfo, e1, hq, hs, sliced, Result.andThen]
  · intro hne
    rw [bCells_take] at hne
    obtain ⟨b, off, rfl, hlt, hc⟩ := h (by rintro e; rw [e] at hne; simp at hne)
    refine ⟨b, off, ?_, hlt, fun j u hu => hc j u ?_⟩
    · split
      · rfl
      · simp [add_plain]
    · rw [bCells_take, List.getElem?_take] at hu
      split at hu
      · exact hu
      · cases hu
/-- the blocks from a place on -/
theorem slice_lo (A : Option Addr) (m ca i : Nat) (I : Int) (hI : I = (i : Int)) (hi : i ≤ m) (hm : m ≤ ca) : ∃ A1, (∀ w, (Instr.slice 136 (.slice A m ca) (some (.int .i64 I)) none none).run Tryz.prog w = .ok (.slice A1 (m - i) (ca - i)) w) ∧ ∀ w L, L.length = m → SlR w A (bCells L) → SlR w A1 (bCells (L.drop i)) := by
  subst hI
  obtain ⟨q, hq, hs⟩ := info_blk2
  have e1 : Tryz.prog.elem 136 = 135 := by simp [Program.elem, Tryz.underlying136]
  refine ⟨if ca = i then A else A.map (·.add (i * 2)), fun w => ?_, fun w L hL h => ?_⟩
  · rw [run_slice_l (P := Tryz.prog) (w := w) (t := 136) (a := A) (len := m) (cap := ca) (ht := by rw [e1]; exact Tryz.underlying136) .i64 (i : Int) (by omega) (by omega)]
    simp [sizeOf, typeInfo, e1, hq, hs, sliced, Result.andThen]
  · intro hne
    have hlen := bCells_length (L.drop i)
    rw [List.length_drop] at hlen
    have hlt2 : i < L.length := by
      rcases Nat.lt_or_ge i L.length with h1 | h1
      · exact h1
      · exfalso
        apply hne
        exact List.eq_nil_of_length_eq_zero (by omega)
    rw [bCells_drop] at hne
    obtain ⟨b, off, rfl, hlt, hc⟩ := h (by rintro e; rw [e] at hne; simp at hne)
    refine ⟨b, off + i * 2, ?_, hlt, fun j u hu => ?_⟩
    · rw [if_neg (by omega)]
      simp [add_plain]
    · rw [bCells_drop, List.getElem?_drop] at hu
      have := hc _ _ hu
      rwa [Nat.add_assoc]
theorem ownsRow_held {w : World} {base : Nat} {A : Option Addr} {n cap : Nat} {L : List (Nat × Nat)} (h : w.ownsRow base 135 2 (.slice A n cap) n (bCells L)) : HeldS w (A, bCells L) := fun hne => by
  rcases h.2 with ⟨hv, h0⟩ | ⟨g, cap', cur, hv, hg, hh, hn, hc, hs, ht⟩
  · exfalso
    apply hne
    have := h.1
    rw [h0, Nat.zero_mul] at this
    exact List.eq_nil_of_length_eq_zero this
  · injection hv with hA
    refine ⟨g, 0, cur, 135, hA, hh, ⟨by decide, (tyOf_bCells _).symm⟩, fun j u hu => ?_⟩
    rw [← ht] at hu
    have hlt : j < n * 2 := by
      rcases Nat.lt_or_ge j (n * 2) with h1 | h1
      · exact h1
      · rw [List.getElem?_eq_none (by rw [List.length_take]; omega)] at hu; cases hu
    rw [List.getElem?_take_of_lt hlt] at hu
    simpa using hu
theorem ownsRow_fresh {w : World} {base : Nat} {A : Option Addr} {n cap : Nat} {xs : List Value} (h : w.ownsRow base 135 2 (.slice A n cap) n xs) : ∀ a, A = some a → base ≤ a.block := fun a e => by
  rcases h.2 with ⟨hv, h0⟩ | ⟨g, cap', cur, hv, hg, _⟩
  · injection hv with hA
    rw [e] at hA
    cases hA
  · injection hv with hA
    rw [e] at hA
    injection hA with hA
    rw [hA]
    exact hg
set_option maxRecDepth 100000 in
set_option maxHeartbeats 1600000 in
theorem cut_r (L : List (Nat × Nat)) (m : Nat) (hm : m = L.length) (hl : m ≤ 1048576) (A : Option Addr) (ca : Nat) (hca : m ≤ ca) (i : Nat) (hi : i < m) (I : Int) (hI : I = (i : Int)) (w : World) (hA : SlR w A (bCells L)) :
    Calls Tryz.prog 96 #[.slice A m ca, .int .i64 I] w fun e w' => ∃ A' n' c', e = .returned (.slice A' n' c') ∧ n' + 1 = m ∧ n' ≤ c' ∧ HeldS w' (A', bCells (L.take i ++ L.drop (i + 1))) ∧ (∀ a, A' = some a → w.heap.size ≤ a.block) ∧ Below w.heap.size w w' := by
  obtain ⟨i0, hi0, hz0, hz1, hz2⟩ := info_parts info_blk
  obtain ⟨J, hJ⟩ : ∃ J : Int, I + 1 = J := ⟨_, rfl⟩
  have zJ : IntKind.i64.wrap (I + 1) = J := by rw [IntKind.wrap_i64]; omega
  obtain ⟨A1, hs1, hr1⟩ := slice_hi A m ca i I hI (by omega)
  obtain ⟨A2, hs2, hr2⟩ := slice_lo A m ca (i + 1) J (by omega) (by omega) hca
  have HR1 := Lib.hid (hr1 _ _ hA)
  have HR2 := Lib.hid (hr2 _ _ hm.symm hA)
  have LT : Hid ((bCells (L.take i)).length = i * 2) := Lib.hid (by rw [bCells_length, List.length_take]; omega)
  have LD : Hid ((bCells (L.drop (i + 1))).length = (m - (i + 1)) * 2) := Lib.hid (by rw [bCells_length, List.length_drop, hm])
  have BD : Hid (i < m ∧ m ≤ 1048576) := Lib.hid ⟨hi, hl⟩
  clear hJ hI hr1 hr2 hA hm hl hca hi
  go_enter Tryz.func96, Tryz.ntmps96
  go_wp2_with fail
  go_region_law (first | ((refine step_app _ rfl (.tmp 5) (.tmp 8) 136 rfl w.heap.size 135 i0 _ 2 16 Tryz.underlying136 hi0 hz0 hz1 hz2 rfl (by omega) (some ⟨w.heap.size, 0, none⟩) 0 0 [] (by simp [Act.eval, Act.put]) (ownsRow_below (World.ownsRow_lit w #[] 0 (Nat.le_refl _) (by decide) rfl) (Below.refl _ _).drew) A1 i ca (bCells (L.take i)) (by simp [Act.eval, Act.put]) LT.out (HR1.out.below ((Below.refl _ _).alloc (Nat.le_refl _) _).drew) (bCells_one _) (by have := BD.out; unfold maxLen; omega) (by have := BD.out; omega) (((Below.refl _ _).alloc (Nat.le_refl _) _).drew).size ?_); intro A3 k3 w3 hown3 hgr3 hb3) | ((refine step_app _ rfl (.tmp 9) (.tmp 13) 136 rfl w.heap.size 135 i0 _ 2 16 Tryz.underlying136 hi0 hz0 hz1 hz2 rfl (by omega) A3 (0 + i) k3 _ (by simp [Act.eval, Act.put]) hown3 A2 (m - (i + 1)) (ca - (i + 1)) (bCells (L.drop (i + 1))) (by simp [Act.eval, Act.put]) LD.out (HR2.out.below ((((Below.refl _ _).alloc (Nat.le_refl _) _).drew).trans hb3)) (bCells_one _) (by have := BD.out; unfold maxLen; omega) (by have := BD.out; omega) (((((Below.refl _ _).alloc (Nat.le_refl _) _).drew).trans hb3)).size ?_); intro A4 k4 w4 hown4 hgr4 hb4))
  all_goals
    have HO : Hid (HeldS w4 (A4, bCells (L.take i ++ L.drop (i + 1)))) := Lib.hid (ownsRow_held (by rw [bCells_app]; exact hown4))
    have HB : Hid (Below w.heap.size w w4) := Lib.hid (((((Below.refl _ _).alloc (Nat.le_refl _) _).drew).trans hb3).trans hb4)
    have HFR : Hid (∀ a, A4 = some a → w.heap.size ≤ a.block) := Lib.hid (ownsRow_fresh hown4)
    have HC : Hid (i + (m - (i + 1)) + 1 = m ∧ i + (m - (i + 1)) ≤ k4) := Lib.hid (by have := ownsRow_le hown4; have := BD.out; omega)
    clear hown3 hgr3 hb3 hown4 hgr4 hb4
    go_wp2
    go_ret
    exact ⟨A4, _, k4, rfl, HC.out.1, HC.out.2, HO.out, HFR.out, HB.out⟩
end Go.Proofs.YtflkoabgkgegjaaGreatDoor
/- The reference's lists of blocks: put and cut. No condition. -/
namespace Go.Proofs.YtflkoabgkgegjaaGreatDoor

/-- a block put among some: behind the last one that begins no later -/
def PutR (L : List (Nat × Nat)) (x : Nat × Nat) (L' : List (Nat × Nat)) : Prop := ∃ k, k ≤ L.length ∧ L' = L.take k ++ x :: L.drop k ∧ (∀ j (hj : j < L.length), k ≤ j → x.1 < L[j].1) ∧ (k = 0 ∨ ∃ h : k - 1 < L.length, L[k - 1].1 ≤ x.1)
theorem Rises.at {L : List (Nat × Nat)} (h : Rises L) {i j : Nat} (hi : i < L.length) (hj : j < L.length) (hij : i < j) : L[i].1 < L[j].1 := List.pairwise_iff_getElem.1 h i j hi hj hij
theorem Rises.one {L : List (Nat × Nat)} (h : Rises L) {x y : Nat × Nat} (hx : x ∈ L) (hy : y ∈ L) (e : x.1 = y.1) : x = y := by
  obtain ⟨i, hi, rfl⟩ := List.getElem_of_mem hx
  obtain ⟨j, hj, rfl⟩ := List.getElem_of_mem hy
  rcases Nat.lt_trichotomy i j with q | q | q
  · have := h.at hi hj q; omega
  · subst q; rfl
  · have := h.at hj hi q; omega
theorem put_eq {L M L' : List (Nat × Nat)} {x : Nat × Nat} (hL : Rises L) (hM : Rises M) (hm : ∀ y, y ∈ M ↔ y = x ∨ y ∈ L) (hx : x ∉ L) (hp : PutR L x L') : L' = M := by
  obtain ⟨k, hk, rfl, h1, h2⟩ := hp
  have hne : ∀ y ∈ L, y.1 ≠ x.1 := fun y hy e => by
    have := hM.one ((hm y).2 (.inr hy)) ((hm x).2 (.inl rfl)) e
    subst this
    exact hx hy
  have lo : ∀ y ∈ L.take k, y.1 < x.1 := fun y hy => by
    obtain ⟨i, hi, rfl⟩ := List.getElem_of_mem hy
    have hi2 : i < k ∧ i < L.length := by simpa [Nat.lt_min] using hi
    rw [List.getElem_take]
    rcases h2 with rfl | ⟨h3, h4⟩
    · omega
    · have a1 := hne _ (List.getElem_mem h3)
      rcases Nat.lt_or_ge i (k - 1) with q | q
      · have := hL.at hi2.2 h3 q; omega
      · have : i = k - 1 := by omega
        subst this
        omega
  have hi : ∀ y ∈ L.drop k, x.1 < y.1 := fun y hy => by
    obtain ⟨i, hi, rfl⟩ := List.getElem_of_mem hy
    rw [List.length_drop] at hi
    rw [List.getElem_drop]
    exact h1 _ (by omega) (by omega)
  refine rises_eq ?_ hM fun y => ?_
  · unfold Rises
    rw [List.pairwise_append]
    refine ⟨hL.sublist (List.take_sublist _ _), ?_, fun a ha b hb => ?_⟩
    · rw [List.pairwise_cons]
      exact ⟨hi, hL.sublist (List.drop_sublist _ _)⟩
    · rcases List.mem_cons.1 hb with rfl | hb
      · exact lo a ha
      · exact Nat.lt_trans (lo a ha) (hi b hb)
  · rw [hm, List.mem_append, List.mem_cons]
    have : y ∈ L ↔ y ∈ L.take k ∨ y ∈ L.drop k := by rw [← List.mem_append, List.take_append_drop]
    rw [this]
    constructor
    · rintro (h | h | h)
      · exact .inr (.inl h)
      · exact .inl h
      · exact .inr (.inr h)
    · rintro (h | h | h)
      · exact .inr (.inl h)
      · exact .inl h
      · exact .inr (.inr h)
theorem cut_eq {L M : List (Nat × Nat)} {i : Nat} (hL : Rises L) (hM : Rises M) (hi : i < L.length) (hm : ∀ y, y ∈ M ↔ y ∈ L ∧ y ≠ L[i]) : L.take i ++ L.drop (i + 1) = M := by
  have e : L = L.take i ++ L[i] :: L.drop (i + 1) := by rw [List.getElem_cons_drop, List.take_append_drop]
  have hne : L[i] ∉ L.take i ++ L.drop (i + 1) := fun hc => by
    rcases List.mem_append.1 hc with h | h
    · obtain ⟨j, hj, q⟩ := List.getElem_of_mem h
      have hj2 : j < i ∧ j < L.length := by simpa [Nat.lt_min] using hj
      rw [List.getElem_take] at q
      have := hL.at hj2.2 hi hj2.1
      rw [q] at this
      omega
    · obtain ⟨j, hj, q⟩ := List.getElem_of_mem h
      rw [List.length_drop] at hj
      rw [List.getElem_drop] at q
      have := hL.at (i := i) (j := i + 1 + j) hi (by omega) (by omega)
      rw [q] at this
      omega
  refine rises_eq ?_ hM fun y => ?_
  · refine hL.sublist ?_
    conv => rhs; rw [e]
    exact List.Sublist.append_left (List.sublist_cons_self _ _) _
  · rw [hm]
    have : y ∈ L ↔ y ∈ L.take i ++ L.drop (i + 1) ∨ y = L[i] := by
      conv => lhs; rw [e]
      simp only [List.mem_append, List.mem_cons]
      constructor
      · rintro (h | h | h)
        · exact .inl (.inl h)
        · exact .inr h
        · exact .inl (.inr h)
      · rintro ((h | h) | h)
        · exact .inl h
        · exact .inr (.inr h)
        · exact .inr (.inl h)
    rw [this]
    constructor
    · intro h
      exact ⟨.inl h, fun q => hne (q ▸ h)⟩
    · rintro ⟨h | h, h2⟩
      · exact h
      · exact absurd h h2
/-- the free blocks when one of order j + 1 is parted -/
theorem put_take {k j : Nat} {a c : List Tl} {L' : List (Nat × Nat)} (hj : j < k) (hp : PutR (blks true 0 (takeT (j + 1) k a c)) (span a + 2 ^ j, j) L') : L' = blks true 0 (takeT j k a c) := by
  have e : ∀ y, y ∈ blks true 0 (takeT j k a c) ↔ y = (span a + 2 ^ j, j) ∨ y ∈ blks true 0 (takeT (j + 1) k a c) := fun y => by
    rw [take_free a c (by omega), take_free a c (by omega), show k - j = (k - (j + 1)) + 1 by omega, List.range_succ_eq_map]
    simp only [List.map_cons, List.map_map, List.mem_append, List.mem_cons, Nat.add_zero]
    have : ((fun i => (span a + 2 ^ (j + i), j + i)) ∘ Nat.succ) = fun i => (span a + 2 ^ (j + 1 + i), j + 1 + i) := by
      funext i
      simp only [Function.comp, show j + Nat.succ i = j + 1 + i by omega]
    rw [this]
    constructor
    · rintro ((h | h | h) | h)
      · exact .inr (.inl (.inl h))
      · exact .inl h
      · exact .inr (.inl (.inr h))
      · exact .inr (.inr h)
    · rintro (h | (h | h) | h)
      · exact .inl (.inr (.inl h))
      · exact .inl (.inl h)
      · exact .inl (.inr (.inr h))
      · exact .inr h
  refine put_eq (blks_rise _ _ _) (blks_rise _ _ _) e (fun hc => ?_) hp
  rw [take_free a c (by omega)] at hc
  rcases List.mem_append.1 hc with h | h
  · rcases List.mem_append.1 h with h | h
    · have := (blks_lt h).2
      have := two_pos j
      simp only at *
      omega
    · obtain ⟨i, _, h⟩ := List.mem_map.1 h
      injection h with _ h
      omega
  · have := (blks_lt h).1
    simp only at this
    have : 2 ^ j < 2 ^ k := Nat.pow_lt_pow_right (by omega) hj
    omega
/-- the free blocks when one is taken out -/
theorem cut_take {k i : Nat} {a c : List Tl} (hi : i < (blks true 0 (a ++ (k, true) :: c)).length) (e : (blks true 0 (a ++ (k, true) :: c))[i].1 = span a) :
    (blks true 0 (a ++ (k, true) :: c)).take i ++ (blks true 0 (a ++ (k, true) :: c)).drop (i + 1) = blks true 0 (takeT k k a c) := by
  have hx : (blks true 0 (a ++ (k, true) :: c))[i] = (span a, k) := (blks_rise _ _ _).one (List.getElem_mem hi) (by rw [blks_same]; simp) e
  refine cut_eq (blks_rise _ _ _) (blks_rise _ _ _) hi fun y => ?_
  rw [hx, take_free a c (Nat.le_refl _), blks_same]
  simp only [Nat.sub_self, List.range_zero, List.map_nil, List.append_nil, List.mem_append, List.mem_cons]
  constructor
  · rintro (h | h)
    · refine ⟨.inl h, fun q => ?_⟩
      subst q
      have := (blks_lt h).2
      have := two_pos k
      simp only at *
      omega
    · refine ⟨.inr (.inr h), fun q => ?_⟩
      subst q
      have := (blks_lt h).1
      have := two_pos k
      simp only at *
      omega
  · rintro ⟨h | h | h, h2⟩
    · exact .inl h
    · exact absurd h h2
    · exact .inr h
/-- the used blocks when one is taken -/
theorem put_used {o k : Nat} {a c : List Tl} {L' : List (Nat × Nat)} (ho : o ≤ k) (hp : PutR (blks false 0 (a ++ (k, true) :: c)) (span a, o) L') : L' = blks false 0 (takeT o k a c) := by
  rw [blks_used false a c k (by decide)] at hp
  rw [take_used a c ho]
  have hr : Rises (blks false 0 a ++ blks false (span a + 2 ^ k) c) := by
    rw [← blks_used (g := true) false a c k (by decide)]
    exact blks_rise _ _ _
  have hr2 : Rises (blks false 0 a ++ (span a, o) :: blks false (span a + 2 ^ k) c) := by
    rw [← take_used a c ho]
    exact blks_rise _ _ _
  refine put_eq hr hr2 (fun y => ?_) (fun hc => ?_) hp
  · simp only [List.mem_append, List.mem_cons]
    constructor
    · rintro (h | h | h)
      · exact .inr (.inl h)
      · exact .inl h
      · exact .inr (.inr h)
    · rintro (h | h | h)
      · exact .inr (.inl h)
      · exact .inl h
      · exact .inr (.inr h)
  · rcases List.mem_append.1 hc with h | h
    · have := (blks_lt h).2
      have := two_pos o
      simp only at *
      omega
    · have := (blks_lt h).1
      have := two_pos k
      simp only at *
      omega
/-- the used blocks when one is given back -/
theorem cut_used {top k i : Nat} {a c : List Tl} (hi : i < (blks false 0 (a ++ (k, false) :: c)).length) (e : (blks false 0 (a ++ (k, false) :: c))[i].1 = span a) :
    (blks false 0 (a ++ (k, false) :: c)).take i ++ (blks false 0 (a ++ (k, false) :: c)).drop (i + 1) = blks false 0 (melt (top - k) a.reverse k c) ∧ (blks false 0 (a ++ (k, false) :: c))[i] = (span a, k) := by
  have hx : (blks false 0 (a ++ (k, false) :: c))[i] = (span a, k) := (blks_rise _ _ _).one (List.getElem_mem hi) (by rw [blks_same]; simp) e
  refine ⟨cut_eq (blks_rise _ _ _) (blks_rise _ _ _) hi fun y => ?_, hx⟩
  rw [hx, melt_used, blks_same, List.reverse_reverse, span_rev]
  simp only [List.mem_append, List.mem_cons]
  constructor
  · rintro (h | h)
    · refine ⟨.inl h, fun q => ?_⟩
      subst q
      have := (blks_lt h).2
      have := two_pos k
      simp only at *
      omega
    · refine ⟨.inr (.inr h), fun q => ?_⟩
      subst q
      have := (blks_lt h).1
      have := two_pos k
      simp only at *
      omega
  · rintro ⟨h | h | h, h2⟩
    · exact .inl h
    · exact absurd h h2
    · exact .inr h
/-- the free blocks about a hole -/
def holeL (ra : List Tl) (k : Nat) (b : List Tl) : List (Nat × Nat) := blks true 0 ra.reverse ++ blks true (span ra + 2 ^ k) b
theorem holeL_eq (ra : List Tl) (k : Nat) (b : List Tl) : holeL ra k b = blks true 0 (ra.reverse ++ (k, false) :: b) := by
  rw [blks_used true _ b k (by decide), span_rev]
  rfl
theorem holeL_rise (ra : List Tl) (k : Nat) (b : List Tl) : Rises (holeL ra k b) := by rw [holeL_eq]; exact blks_rise _ _ _
/-- the buddy's place -/
def otherN (p k : Nat) : Nat := if p / 2 ^ k % 2 = 1 then p - 2 ^ k else p + 2 ^ k
theorem other_buddy {top k : Nat} {ra b : List Tl} (hM : Mid top ra k b) (hk : k < top) : (otherN (span ra) k, k) ∈ holeL ra k b ↔ (step ra k b).isSome = true := by
  have hF : HRel (fun j x => decide ((x * 2 ^ j, j) ∈ holeL ra k b)) top ra k b := fun j x _ _ => by
    rw [decide_eq_true_eq]
    exact List.mem_append
  have h1 := hF.buddy hM hk
  obtain ⟨h2, h3⟩ := hM.place
  rw [← h1, decide_eq_true_eq]
  have e : (span ra / 2 ^ k ^^^ 1) * 2 ^ k = otherN (span ra) k := by
    unfold otherN
    by_cases q : span ra / 2 ^ k % 2 = 1
    · rw [if_pos q, xor_odd _ q, Nat.sub_mul, h2, Nat.one_mul]
    · rw [if_neg q, xor_even _ (by omega), Nat.add_mul, h2, Nat.one_mul]
  rw [e]
/-- the free blocks when the buddy is melted in -/
theorem cut_hole {k i : Nat} {ra b ra' b' : List Tl} (hs : step ra k b = some (ra', b')) (hi : i < (holeL ra k b).length) (e : (holeL ra k b)[i].1 = otherN (span ra) k) :
    (holeL ra k b).take i ++ (holeL ra k b).drop (i + 1) = holeL ra' (k + 1) b' ∧ min (otherN (span ra) k) (span ra) = span ra' := by
  have hp := two_pos k
  have h2 : 2 ^ (k + 1) = 2 ^ k + 2 ^ k := by rw [Nat.pow_succ]; omega
  rcases step_some hs with ⟨q, rfl, rfl⟩ | ⟨q, rfl, rfl⟩
  · have ho : otherN (span ra') k = span ra' + 2 ^ k := by unfold otherN; rw [if_neg (by omega)]
    have eL : holeL ra' k ((k, true) :: b') = blks true 0 ra'.reverse ++ (span ra' + 2 ^ k, k) :: blks true (span ra' + 2 ^ (k + 1)) b' := by
      unfold holeL
      rw [h2, ← Nat.add_assoc]
      simp [blks]
    have hx : (holeL ra' k ((k, true) :: b'))[i] = (span ra' + 2 ^ k, k) := (holeL_rise _ _ _).one (List.getElem_mem hi) (by rw [eL]; simp) (by rw [e, ho])
    refine ⟨cut_eq (holeL_rise _ _ _) (holeL_rise _ _ _) hi fun y => ?_, by rw [ho]; omega⟩
    rw [hx, eL]
    unfold holeL
    simp only [List.mem_append, List.mem_cons]
    constructor
    · rintro (h | h)
      · refine ⟨.inl h, fun r => ?_⟩
        subst r
        have := (blks_lt h).2
        rw [span_rev] at this
        simp only at *
        omega
      · refine ⟨.inr (.inr h), fun r => ?_⟩
        subst r
        have := (blks_lt h).1
        simp only at *
        omega
    · rintro ⟨h | h | h, h3⟩
      · exact .inl h
      · exact absurd h h3
      · exact .inr h
  · have hsp : span ((k, true) :: ra') = 2 ^ k + span ra' := rfl
    have ho : otherN (span ((k, true) :: ra')) k = span ra' := by unfold otherN; rw [if_pos q, hsp]; omega
    have eL : holeL ((k, true) :: ra') k b' = blks true 0 ra'.reverse ++ (span ra', k) :: blks true (span ra' + 2 ^ (k + 1)) b' := by
      unfold holeL
      rw [List.reverse_cons, blks_append, span_rev, hsp, show 2 ^ k + span ra' + 2 ^ k = span ra' + 2 ^ (k + 1) by omega]
      simp [blks]
    have hx : (holeL ((k, true) :: ra') k b')[i] = (span ra', k) := (holeL_rise _ _ _).one (List.getElem_mem hi) (by rw [eL]; simp) (by rw [e, ho])
    refine ⟨cut_eq (holeL_rise _ _ _) (holeL_rise _ _ _) hi fun y => ?_, by rw [ho, hsp]; omega⟩
    rw [hx, eL]
    unfold holeL
    simp only [List.mem_append, List.mem_cons]
    constructor
    · rintro (h | h)
      · refine ⟨.inl h, fun r => ?_⟩
        subst r
        have := (blks_lt h).2
        rw [span_rev] at this
        simp only at *
        omega
      · refine ⟨.inr (.inr h), fun r => ?_⟩
        subst r
        have := (blks_lt h).1
        simp only at *
        omega
    · rintro ⟨h | h | h, h3⟩
      · exact .inl h
      · exact absurd h h3
      · exact .inr h
/-- the free blocks when the hole is laid -/
theorem put_hole {k : Nat} {ra b : List Tl} {L' : List (Nat × Nat)} (hp : PutR (holeL ra k b) (span ra, k) L') : L' = blks true 0 (ra.reverse ++ (k, true) :: b) := by
  refine put_eq (holeL_rise _ _ _) (blks_rise _ _ _) (fun y => ?_) (fun hc => ?_) hp
  · rw [blks_same, span_rev]
    unfold holeL
    simp only [List.mem_append, List.mem_cons]
    constructor
    · rintro (h | h | h)
      · exact .inr (.inl h)
      · exact .inl h
      · exact .inr (.inr h)
    · rintro (h | h | h)
      · exact .inr (.inl h)
      · exact .inl h
      · exact .inr (.inr h)
  · have := two_pos k
    rcases List.mem_append.1 hc with h | h
    · have := (blks_lt h).2
      rw [span_rev] at this
      simp only at *
      omega
    · have := (blks_lt h).1
      simp only at *
      omega
end Go.Proofs.YtflkoabgkgegjaaGreatDoor
/- The reference's Take, Give, Order, Left over lists. No condition. -/
namespace Go.Proofs.YtflkoabgkgegjaaGreatDoor

/-- the place of the first block of the least order that is no less than one, of so many -/
def BestP (L : List (Nat × Nat)) (q n : Nat) (r : Int) : Prop := (r = -1 ∧ ∀ j (hj : j < L.length), j < n → L[j].2 < q) ∨ ∃ (i : Nat) (hi : i < L.length), i < n ∧ r = (i : Int) ∧ q ≤ L[i].2 ∧ ∀ j (hj : j < L.length), j < n → q ≤ L[j].2 → L[i].2 ≤ L[j].2 ∧ (j < i → L[i].2 < L[j].2)
theorem bestP_zero (L : List (Nat × Nat)) (q : Nat) : BestP L q 0 (-1) := .inl ⟨rfl, fun _ _ h => absurd h (Nat.not_lt_zero _)⟩
theorem bestP_small {L : List (Nat × Nat)} {q n : Nat} {r : Int} (h : BestP L q n r) (hn : n < L.length) (hq : L[n].2 < q) : BestP L q (n + 1) r := by
  rcases h with ⟨h1, h2⟩ | ⟨i, hi, h1, h2, h3, h4⟩
  · refine .inl ⟨h1, fun j hj hjn => ?_⟩
    by_cases e : j = n
    · subst e; exact hq
    · exact h2 j hj (by omega)
  · refine .inr ⟨i, hi, by omega, h2, h3, fun j hj hjn hqj => ?_⟩
    by_cases e : j = n
    · subst e; omega
    · exact h4 j hj (by omega) hqj
theorem bestP_first {L : List (Nat × Nat)} {q n : Nat} {r : Int} (h : BestP L q n r) (hr : r < 0) (hn : n < L.length) (hq : q ≤ L[n].2) : BestP L q (n + 1) (n : Int) := by
  rcases h with ⟨h1, h2⟩ | ⟨i, hi, h1, h2, _⟩
  · refine .inr ⟨n, hn, by omega, rfl, hq, fun j hj hjn hqj => ?_⟩
    by_cases e : j = n
    · subst e; exact ⟨Nat.le_refl _, fun q => absurd q (Nat.lt_irrefl _)⟩
    · have := h2 j hj (by omega)
      omega
  · omega
theorem bestP_less {L : List (Nat × Nat)} {q n i : Nat} (h : BestP L q n (i : Int)) (hi : i < L.length) (hn : n < L.length) (hq : q ≤ L[n].2) (hl : L[n].2 < L[i].2) : BestP L q (n + 1) (n : Int) := by
  rcases h with ⟨h1, h2⟩ | ⟨i', hi', h1, h2, h3, h4⟩
  · omega
  · obtain rfl : i = i' := by omega
    refine .inr ⟨n, hn, by omega, rfl, hq, fun j hj hjn hqj => ?_⟩
    by_cases e : j = n
    · subst e; exact ⟨Nat.le_refl _, fun q => absurd q (Nat.lt_irrefl _)⟩
    · have := h4 j hj (by omega) hqj
      omega
theorem bestP_more {L : List (Nat × Nat)} {q n i : Nat} (h : BestP L q n (i : Int)) (hi : i < L.length) (hn : n < L.length) (hl : ¬ L[n].2 < L[i].2) : BestP L q (n + 1) (i : Int) := by
  rcases h with ⟨h1, h2⟩ | ⟨i', hi', h1, h2, h3, h4⟩
  · omega
  · obtain rfl : i = i' := by omega
    refine .inr ⟨i, hi, by omega, rfl, h3, fun j hj hjn hqj => ?_⟩
    by_cases e : j = n
    · subst e; omega
    · exact h4 j hj (by omega) hqj
/-- where a free block stands among the tiles -/
theorem bestP_split {l : List Tl} {q n i : Nat} (h : BestP (blks true 0 l) q n (i : Int)) (hn : n = (blks true 0 l).length) (hi : i < (blks true 0 l).length) : ∃ k a c, l = a ++ (k, true) :: c ∧ q ≤ k ∧ (blks true 0 l)[i] = (span a, k) ∧ (∀ x ∈ blks true 0 l, q ≤ x.2 → k ≤ x.2) ∧ (∀ x ∈ blks true 0 l, x.2 = k → span a ≤ x.1) := by
  rcases h with ⟨h1, h2⟩ | ⟨i', hi', h1, h2, h3, h4⟩
  · omega
  · obtain rfl : i = i' := by omega
    obtain ⟨a, c, e1, e2⟩ := blks_mem (List.getElem_mem hi)
    rw [Nat.zero_add] at e2
    refine ⟨(blks true 0 l)[i].2, a, c, e1, h3, by rw [← e2], fun x hx hq => ?_, fun x hx hk => ?_⟩
    · obtain ⟨j, hj, rfl⟩ := List.getElem_of_mem hx
      exact (h4 j hj (by omega) hq).1
    · obtain ⟨j, hj, rfl⟩ := List.getElem_of_mem hx
      have := (h4 j hj (by omega) (by omega)).2
      rw [← e2]
      rcases Nat.lt_trichotomy i j with r | r | r
      · exact Nat.le_of_lt ((blks_rise true 0 l).at hi hj r)
      · subst r; exact Nat.le_refl _
      · have := this r
        omega
theorem bestP_none {l : List Tl} {q n : Nat} (h : BestP (blks true 0 l) q n (-1)) (hn : n = (blks true 0 l).length) : ∀ x ∈ blks true 0 l, x.2 < q := fun x hx => by
  rcases h with ⟨h1, h2⟩ | ⟨i', hi', h1, h2, _⟩
  · obtain ⟨j, hj, rfl⟩ := List.getElem_of_mem hx
    exact h2 j hj (by omega)
  · omega
end Go.Proofs.YtflkoabgkgegjaaGreatDoor
