/- Insert of a slab ahead of others: in place, in a new row. Condition: the row of slabs is owned. -/
import Derived.Lib.Overlaps
import Derived.Lib.AppendZerosOnto
import Derived.Shelf.Spec.SlicesInsert
import Derived.Test.YtflkoabgkgegjaaGreatDoorY13
/- Insert of a slab ahead of others: in place, in a new row. Condition: the row of slabs is owned. -/
namespace Go.Proofs.YtflkoabgkgegjaaGreatDoor
open Go.RowKit Go.Maps

/-- copy of elements of more cells -/
theorem run_copy_rowS {P : Program} (w : World) (dT sT ty elem : TypeId) (g o dLen dCap : Nat) (a : Addr) (sLen sCap : Nat) (cur : Array Value) (t : TypeId) (cs : List Value) (i : TypeInfo) (size m : Nat)
    (hu : P.underlying dT = some (.slice elem)) (hi : P.info? elem = some i) (hs : i.size = size) (hg : w.heap[g]? = some (.cells cur t (0, 0))) (hm : Nat.min sLen dLen = m) (hl : cs.length = m * size)
    (hsrc : ∀ j v, cs[j]? = some v → w.cell? (a.add j) = some v) (hfit : o + cs.length ≤ cur.size) (h1 : ∀ v ∈ cs, v.oneCell' = true) :
    (Builtin.copy_ #[dT, sT] ty #[.slice (some ⟨g, o, none⟩) dLen dCap, .slice (some a) sLen sCap]).run P w = .ok (goInt m) (w.setRow g (cur.toList.take o ++ cs ++ cur.toList.drop (o + cs.length)).toArray) := by
  subst hs
  have hf := run_firstCells_some (P := P) w i.size m a sLen sCap cs hl hsrc
  have hst := run_storeCells_at P g o t cs 0 cur w hg (by simpa using hfit) h1
  simp only [Nat.add_zero] at hst
  simp [Builtin.copy_, run_underlying hu, Builtin.lenOf, sizeOf, typeInfo, hi, hm, hf, hst]
theorem insert_cells {P : List Pg} {p : Pg} {i : Nat} (hi : i ≤ P.length) {cur : List Value} (hc : cur.take (P.length * 2) = pCells P) (rest : List Value) :
    cur.take (i * 2) ++ pCells [p] ++ pCells (P.drop i) ++ rest = pCells (P.take i ++ p :: P.drop i) ++ rest := by
  have e : cur.take (i * 2) = pCells (P.take i) := by
    have e1 : cur.take (i * 2) = (cur.take (P.length * 2)).take (i * 2) := by
      rw [List.take_take]
      congr 1
      omega
    rw [e1, hc]
    have e2 : pCells P = pCells (P.take i) ++ pCells (P.drop i) := by rw [← pCells_app, List.take_append_drop]
    rw [e2, List.take_left' (by rw [pCells_length, List.length_take]; omega)]
  rw [e, ← pCells_app, ← pCells_app, List.append_assoc]
  rfl
theorem shape_of_row (w : World) (g : Nat) (t : TypeId) (xs : Array Value) (h : w.heap[g]? = some (.cells xs t (0, 0))) : w.shape? g = some (t, xs.size) := by
  simp [World.shape?, h]
set_option maxRecDepth 100000 in
set_option maxHeartbeats 3200000 in
theorem insert_room (P : List Pg) (p : Pg) (n i : Nat) (hn : P.length = n) (hi : i < n) (hl : n < 1048576) (g cap B c base : Nat) (N : Int) (hN : N = (i : Int)) (hroom : n < cap) (w : World) (ho : w.ownsRow base 140 2 (.slice (some ⟨g, 0, none⟩) n cap) n (pCells P)) (hB : w.heap[B]? = some (.cells (pCells [p]).toArray 140 (0, 0))) (hBg : B ≠ g) :
    Calls Tryz.prog 74 #[.slice (some ⟨g, 0, none⟩) n cap, .int .i64 N, .slice (some ⟨B, 0, none⟩) 1 c] w fun e w' => e = .returned (.slice (some ⟨g, 0, none⟩) (n + 1) cap) ∧ w'.ownsRow base 140 2 (.slice (some ⟨g, 0, none⟩) (n + 1) cap) (n + 1) (pCells (P.take i ++ p :: P.drop i)) ∧ w.grownBy w' (some g) := by
  subst hN
  obtain ⟨i0, hi0, hz0, hz1, hz2⟩ := info_parts info_pg
  obtain ⟨cur, hcur, hsz, htk, hbg⟩ := owns_at ho
  have hcapm := owns_cap ho
  have hpl : (pCells (P.drop i)).length = (n - i) * 2 := by rw [pCells_length, List.length_drop, hn]
  have HN := Lib.hid hn
  have hov : ∀ lb cb, (callFunc 94 #[.slice (some ⟨B, 0, none⟩) 1 c, .slice (some ⟨g, (i + 1) * 2, none⟩) lb cb]).run Tryz.prog w = .ok (.value (.bool false)) w := fun lb cb => by
    rw [run_callFunc_extern Tryz.func94 (by kernel_rfl) (by kernel_rfl) (by kernel_rfl) (e := Extern.SlicesOverlaps.overlaps #[131, 131] #[4]) (by kernel_rfl),
      Lib.run_overlaps_apart w 131 4 140 Tryz.underlying131 2 Tryz.sizeOf140 ⟨B, 0, none⟩ ⟨g, (i + 1) * 2, none⟩ 1 c lb cb hBg _ _ _ _ (shape_of_row _ _ _ _ hB) (shape_of_row _ _ _ _ hcur) (by omega) (frozen_of_row _ _ _ _ _ hB) (frozen_of_row _ _ _ _ _ hB)]
    rfl
  have i1 : (i : Int) ≤ (n : Int) := by omega
  have i2 : (0 : Int) ≤ (i : Int) := by omega
  have i3 : ((i : Int) == (n : Int)) = false := by simp only [beq_eq_false_iff_ne, ne_eq]; omega
  have i4 : ¬ (i : Int) = (n : Int) := by omega
  have i5 : (n : Int) ≤ (cap : Int) := by omega
  have i6 : (i : Int) ≤ (cap : Int) := by omega
  have i7 : ¬ cap = i := by omega
  have z1 : IntKind.i64.wrap ((n : Int) + 1) = (n : Int) + 1 := by rw [IntKind.wrap_i64]; omega
  have z2 : IntKind.i64.wrap ((i : Int) + 1) = (i : Int) + 1 := by rw [IntKind.wrap_i64]; omega
  have q1 : decide ((cap : Int) < (n : Int) + 1) = false := decide_eq_false (by omega)
  have q2 : (n : Int) + 1 ≤ (cap : Int) := by omega
  have q3 : (i : Int) + 1 ≤ (n : Int) + 1 := by omega
  have q4 : (0 : Int) ≤ (n : Int) + 1 := by omega
  have q5 : (0 : Int) ≤ (i : Int) + 1 := by omega
  have q6 : (i : Int) + 1 ≤ (cap : Int) := by omega
  have q7 : ¬ cap = i + 1 := by omega
  have q8 : (i : Int) ≤ (n : Int) + 1 := by omega
  obtain ⟨row1, hrow1⟩ : ∃ row1, row1 = (cur.toList.take ((i + 1) * 2) ++ pCells (P.drop i) ++ cur.toList.drop ((i + 1) * 2 + (pCells (P.drop i)).length)).toArray := ⟨_, rfl⟩
  have hs1 : row1.size = cap * 2 := by
    rw [hrow1]
    simp only [List.size_toArray, List.length_append, List.length_take, List.length_drop, Array.length_toList, hpl]
    omega
  have hcp1 : ∀ ty dc sc, (Builtin.copy_ #[131, 131] ty #[.slice (some ⟨g, (i + 1) * 2, none⟩) (n - i) dc, .slice (some ⟨g, i * 2, none⟩) (n + 1 - i) sc]).run Tryz.prog w.drew = .ok (goInt ((n - i : Nat) : Int)) (w.drew.setRow g row1) := fun ty dc sc => by
    rw [hrow1]
    exact run_copy_rowS w.drew _ _ ty 140 g ((i + 1) * 2) (n - i) dc ⟨g, i * 2, none⟩ (n + 1 - i) sc cur 140 (pCells (P.drop i)) i0 2 (n - i) Tryz.underlying131 hi0 hz1 hcur (by simp only [Nat.min_def]; split <;> omega) hpl (fun j u hu => by
      have e : (⟨g, i * 2, none⟩ : Addr).add j = ⟨g, i * 2 + j, none⟩ := by unfold Addr.add; split <;> simp_all
      rw [e]
      have hj := (List.getElem?_eq_some_iff.1 hu).1
      have e2 : (pCells P)[i * 2 + j]? = some u := by
        rw [← hu, show pCells P = pCells (P.take i) ++ pCells (P.drop i) by rw [← pCells_app, List.take_append_drop], List.getElem?_append_right (by rw [pCells_length, List.length_take]; omega), pCells_length, List.length_take]
        congr 1
        omega
      have e3 : cur[i * 2 + j]? = some u := by
        rw [← htk, List.getElem?_take] at e2
        split at e2
        · rw [← e2]; simp
        · cases e2
      exact (cell_of_row w.drew g (i * 2 + j) _ _ _ hcur).trans e3) (by rw [hpl, hsz]; omega) (pCells_one _)
  have hrow : (w.drew.setRow g row1).heap[g]? = some (.cells row1 140 (0, 0)) := setRow_heap w.drew g cur _ _ _ hcur
  obtain ⟨row2, hrow2⟩ : ∃ row2, row2 = (row1.toList.take (i * 2) ++ pCells [p] ++ row1.toList.drop (i * 2 + (pCells [p]).length)).toArray := ⟨_, rfl⟩
  have hcp2 : ∀ ty dc, (Builtin.copy_ #[131, 131] ty #[.slice (some ⟨g, i * 2, none⟩) (n + 1 - i) dc, .slice (some ⟨B, 0, none⟩) 1 c]).run Tryz.prog (w.drew.setRow g row1) = .ok (goInt 1) ((w.drew.setRow g row1).setRow g row2) := fun ty dc => by
    rw [hrow2]
    exact run_copy_rowS (w.drew.setRow g row1) _ _ ty 140 g (i * 2) (n + 1 - i) dc ⟨B, 0, none⟩ 1 c row1 140 (pCells [p]) i0 2 1 Tryz.underlying131 hi0 hz1 hrow (by simp only [Nat.min_def]; split <;> omega) rfl (fun j u hu => by
      have e : (⟨B, 0, none⟩ : Addr).add j = ⟨B, 0 + j, none⟩ := by unfold Addr.add; split <;> simp_all
      rw [e, Nat.zero_add]
      have hb : (w.drew.setRow g row1).heap[B]? = some (.cells (pCells [p]).toArray 140 (0, 0)) := (setRow_other _ _ _ _ hBg).trans hB
      rw [cell_of_row _ _ _ _ _ _ hb]
      simpa using hu) (by rw [hs1]; show i * 2 + 2 ≤ cap * 2; omega) (pCells_one _)
  have HG : Hid (w.grownBy ((w.drew.setRow g row1).setRow g row2) (some g)) := Lib.hid ⟨rfl, rfl, rfl, by rw [setRow_size, setRow_size]; exact Nat.le_refl _, fun x hx hne => by
    have hxg : x ≠ g := fun e => hne (by rw [e])
    rw [setRow_other _ _ _ _ hxg, setRow_other _ _ _ _ hxg]
    rfl⟩
  have HOW : Hid (((w.drew.setRow g row1).setRow g row2).ownsRow base 140 2 (.slice (some ⟨g, 0, none⟩) (n + 1) cap) (n + 1) (pCells (P.take i ++ p :: P.drop i))) := Lib.hid (by
    have hlen : (pCells (P.take i ++ p :: P.drop i)).length = (n + 1) * 2 := by rw [pCells_length, List.length_append, List.length_take, List.length_cons, List.length_drop, hn]; congr 1; omega
    refine ⟨hlen, .inr ⟨g, cap, row2, rfl, hbg, setRow_heap _ g row1 _ _ _ hrow, by omega, hcapm, ?_, ?_⟩⟩
    · rw [hrow2]
      simp only [List.size_toArray, List.length_append, List.length_take, List.length_drop, Array.length_toList, hs1]
      show min (i * 2) (cap * 2) + 2 + (cap * 2 - (i * 2 + 2)) = cap * 2
      omega
    · have e1 : row1.toList.take (i * 2) = cur.toList.take (i * 2) := by
        rw [hrow1]
        simp only [List.append_assoc]
        rw [List.take_append_of_le_length (by rw [List.length_take, Array.length_toList]; omega), List.take_take]
        congr 1
        omega
      have e2 : row1.toList.drop (i * 2 + (pCells [p]).length) = pCells (P.drop i) ++ cur.toList.drop ((i + 1) * 2 + (pCells (P.drop i)).length) := by
        rw [hrow1]
        simp only [List.append_assoc]
        exact List.drop_left' (by rw [List.length_take, Array.length_toList]; show min ((i + 1) * 2) cur.size = i * 2 + 2; omega)
      have e3 : row2.toList = pCells (P.take i ++ p :: P.drop i) ++ cur.toList.drop ((i + 1) * 2 + (pCells (P.drop i)).length) := by
        rw [hrow2]
        show row1.toList.take (i * 2) ++ pCells [p] ++ row1.toList.drop (i * 2 + (pCells [p]).length) = _
        rw [e1, e2, ← List.append_assoc]
        exact insert_cells (by omega) (by rw [hn]; exact htk) _
      rw [e3]
      exact List.take_left' hlen)
  obtain ⟨w2, hw2⟩ : ∃ w2, (w.drew.setRow g row1).setRow g row2 = w2 := ⟨_, rfl⟩
  rw [hw2] at HG HOW hcp2
  obtain ⟨w1, hw1⟩ : ∃ w1, w.drew.setRow g row1 = w1 := ⟨_, rfl⟩
  rw [hw1] at hcp1 hcp2
  clear hrow hrow1 hrow2 hw2 hw1 hs1 hcur hsz htk hbg hcapm hB hBg hpl ho hn hi hl hroom
  go_enter Tryz.func74, Tryz.ntmps74
  go_wp2_with (simp only [hov])
  go_region_law (first | (refine step_copy_runI rfl _ _ 131 131 rfl _ _ (by simp [Act.eval, Act.put]) (by simp [Act.eval, Act.put]) (hcp1 _ _ _) ?_))
  all_goals
    go_wp2_with (at_builtin; refine wpList_copy_runI _ rfl _ _ 131 131 rfl _ _ rfl rfl (hcp2 _ _) ?_)
    go_ret
    exact ⟨rfl, HOW.out, HG.out⟩

set_option maxRecDepth 100000 in
set_option maxHeartbeats 3200000 in
theorem insert_grow (P : List Pg) (p : Pg) (n i : Nat) (hn : P.length = n) (hi : i < n) (hl : n < 1048576) (g cap B c base : Nat) (N : Int) (hN : N = (i : Int)) (hroom : n = cap) (w : World) (ho : w.ownsRow base 140 2 (.slice (some ⟨g, 0, none⟩) n cap) n (pCells P)) (hB : w.heap[B]? = some (.cells (pCells [p]).toArray 140 (0, 0))) (hbase : base ≤ w.heap.size) :
    Calls Tryz.prog 74 #[.slice (some ⟨g, 0, none⟩) n cap, .int .i64 N, .slice (some ⟨B, 0, none⟩) 1 c] w fun e w' => ∃ cap', e = .returned (.slice (some ⟨w.heap.size, 0, none⟩) (n + 1) cap') ∧ w'.ownsRow base 140 2 (.slice (some ⟨w.heap.size, 0, none⟩) (n + 1) cap') (n + 1) (pCells (P.take i ++ p :: P.drop i)) ∧ w.grownBy w' (some g) := by
  subst hN
  obtain ⟨i0, hi0, hz0, hz1, hz2⟩ := info_parts info_pg
  obtain ⟨cur, hcur, hsz, htk, hbg⟩ := owns_at ho
  have hpl : (pCells (P.drop i)).length = (n - i) * 2 := by rw [pCells_length, List.length_drop, hn]
  have hpt : (pCells (P.take i)).length = i * 2 := by rw [pCells_length, List.length_take, hn]; congr 1; omega
  have hsplit : pCells P = pCells (P.take i) ++ pCells (P.drop i) := by rw [← pCells_app, List.take_append_drop]
  have cells : ∀ (j : Nat) (u : Value), (pCells P)[j]? = some u → cur[j]? = some u := fun j u hu => by
    rw [← htk, List.getElem?_take] at hu
    split at hu
    · rw [← hu]; simp
    · cases hu
  obtain ⟨k, hk⟩ : ∃ k, n + 1 - i = k := ⟨_, rfl⟩
  have hik : i + k = n + 1 := by omega
  obtain ⟨C, hC⟩ : ∃ C, grownCap w (i + k) cap 140 = C := ⟨_, rfl⟩
  have hCge : n + 1 ≤ C := by rw [← hC, ← hik]; exact grownCap_ge w (i + k) cap _
  have hCle : C ≤ maxLen := by rw [← hC]; exact grownCap_le_maxLen w (i + k) cap _ (by unfold maxLen; omega)
  obtain ⟨row0, hrow0⟩ : ∃ row0, row0 = (pCells (P.take i)).toArray ++ Builtin.zeroCells (Value.cells (.agg #[.pointer none, .int .i64 0])) k ++ Builtin.zeroCells (Value.cells (.agg #[.pointer none, .int .i64 0])) (C - (i + k)) := ⟨_, rfl⟩
  have hz : (Value.cells (.agg #[.pointer none, .int .i64 0])).size = 2 := by rfl
  have hs0 : row0.size = C * 2 := by
    rw [hrow0]
    simp only [Array.size_append, List.size_toArray, size_zeroCells, hz, hpt]
    omega
  have h0t : row0.toList.take (i * 2) = pCells (P.take i) := by
    rw [hrow0]
    simp only [Array.toList_append, List.append_assoc]
    exact List.take_left' hpt
  have hap : ∀ ty, (Builtin.append_ #[131, 3] ty #[.slice (some ⟨g, 0, none⟩) i cap, .int .i64 (k : Int)]).run Tryz.prog w = .ok (.slice (some ⟨w.heap.size, 0, none⟩) (n + 1) C) (w.drew.alloc (.cells row0 140)) := fun ty => by
    have := Lib.run_append_grow_zeros w 131 3 ty 140 i0 _ .i64 .i64 Tryz.underlying131 Tryz.underlying3 hi0 hz0 (some ⟨g, 0, none⟩) i cap (pCells (P.take i)) (by
      rw [hz1]
      exact run_firstCells_some w.drew 2 i ⟨g, 0, none⟩ i cap _ hpt (fun j u hu => by
        have e : (⟨g, 0, none⟩ : Addr).add j = ⟨g, 0 + j, none⟩ := by unfold Addr.add; split <;> simp_all
        rw [e, Nat.zero_add]
        refine (cell_of_row w.drew g j _ _ _ hcur).trans (cells j u ?_)
        rw [hsplit, List.getElem?_append_left (List.getElem?_eq_some_iff.1 hu).1]
        exact hu)) k (by omega) (by rw [hz1]; omega) (by omega) (by omega) (by rw [hz2]; omega) (by rw [hz2]; exact growslice_fits (by omega) (by omega))
    rw [hC, ← hrow0, hik] at this
    exact this
  have hne : w.heap.size ≠ g := by have := blt hcur; omega
  have hneB : B ≠ w.heap.size := by have := blt hB; omega
  have h1w : (w.drew.alloc (.cells row0 140)).heap[w.heap.size]? = some (.cells row0 140 (0, 0)) := heap_alloc_new w.drew _
  have old1 : ∀ x, x < w.heap.size → (w.drew.alloc (.cells row0 140)).heap[x]? = w.heap[x]? := fun x hx => ((Below.refl _ w.drew).alloc (Nat.le_refl _) _).block x hx
  obtain ⟨row1, hrow1⟩ : ∃ row1, row1 = (row0.toList.take (i * 2) ++ pCells [p] ++ row0.toList.drop (i * 2 + (pCells [p]).length)).toArray := ⟨_, rfl⟩
  have hs1 : row1.size = C * 2 := by
    rw [hrow1]
    simp only [List.size_toArray, List.length_append, List.length_take, List.length_drop, Array.length_toList, hs0]
    show min (i * 2) (C * 2) + 2 + (C * 2 - (i * 2 + 2)) = C * 2
    omega
  have hcp1 : ∀ ty dc, (Builtin.copy_ #[131, 131] ty #[.slice (some ⟨w.heap.size, i * 2, none⟩) (n + 1 - i) dc, .slice (some ⟨B, 0, none⟩) 1 c]).run Tryz.prog (w.drew.alloc (.cells row0 140)) = .ok (goInt 1) ((w.drew.alloc (.cells row0 140)).setRow w.heap.size row1) := fun ty dc => by
    rw [hrow1]
    exact run_copy_rowS _ _ _ ty 140 w.heap.size (i * 2) (n + 1 - i) dc ⟨B, 0, none⟩ 1 c row0 140 (pCells [p]) i0 2 1 Tryz.underlying131 hi0 hz1 h1w (by simp only [Nat.min_def]; split <;> omega) rfl (fun j u hu => by
      have e : (⟨B, 0, none⟩ : Addr).add j = ⟨B, 0 + j, none⟩ := by unfold Addr.add; split <;> simp_all
      rw [e, Nat.zero_add, cell_of_row _ _ _ _ _ _ ((old1 B (blt hB)).trans hB)]
      simpa using hu) (by rw [hs0]; show i * 2 + 2 ≤ C * 2; omega) (pCells_one _)
  obtain ⟨w2, hw2⟩ : ∃ w2, (w.drew.alloc (.cells row0 140)).setRow w.heap.size row1 = w2 := ⟨_, rfl⟩
  have h2w : w2.heap[w.heap.size]? = some (.cells row1 140 (0, 0)) := by rw [← hw2]; exact setRow_heap _ _ row0 _ _ _ h1w
  have old2 : ∀ x, x < w.heap.size → w2.heap[x]? = w.heap[x]? := fun x hx => by rw [← hw2, setRow_other _ _ _ _ (by omega)]; exact old1 x hx
  have hz2s : w.heap.size + 1 = w2.heap.size := by rw [← hw2, setRow_size, World.size_alloc]; rfl
  rw [hw2] at hcp1
  obtain ⟨row2, hrow2⟩ : ∃ row2, row2 = (row1.toList.take ((i + 1) * 2) ++ pCells (P.drop i) ++ row1.toList.drop ((i + 1) * 2 + (pCells (P.drop i)).length)).toArray := ⟨_, rfl⟩
  have hcp2 : ∀ ty dc sc, (Builtin.copy_ #[131, 131] ty #[.slice (some ⟨w.heap.size, (i + 1) * 2, none⟩) (n - i) dc, .slice (some ⟨g, i * 2, none⟩) (n - i) sc]).run Tryz.prog w2.drew = .ok (goInt ((n - i : Nat) : Int)) (w2.drew.setRow w.heap.size row2) := fun ty dc sc => by
    rw [hrow2]
    exact run_copy_rowS _ _ _ ty 140 w.heap.size ((i + 1) * 2) (n - i) dc ⟨g, i * 2, none⟩ (n - i) sc row1 140 (pCells (P.drop i)) i0 2 (n - i) Tryz.underlying131 hi0 hz1 h2w (by simp only [Nat.min_def]; split <;> omega) hpl (fun j u hu => by
      have e : (⟨g, i * 2, none⟩ : Addr).add j = ⟨g, i * 2 + j, none⟩ := by unfold Addr.add; split <;> simp_all
      rw [e]
      refine (cell_of_row w2.drew g (i * 2 + j) _ _ _ ((old2 g (blt hcur)).trans hcur)).trans (cells _ u ?_)
      rw [hsplit, List.getElem?_append_right (by rw [hpt]; omega), hpt, ← hu]
      congr 1
      omega) (by rw [hpl, hs1]; omega) (pCells_one _)
  have hlen : (pCells (P.take i ++ p :: P.drop i)).length = (n + 1) * 2 := by rw [pCells_length, List.length_append, List.length_take, List.length_cons, List.length_drop, hn]; congr 1; omega
  have HOW : Hid ((w2.drew.setRow w.heap.size row2).ownsRow base 140 2 (.slice (some ⟨w.heap.size, 0, none⟩) (n + 1) C) (n + 1) (pCells (P.take i ++ p :: P.drop i))) := Lib.hid (by
    refine ⟨hlen, .inr ⟨w.heap.size, C, row2, rfl, hbase, setRow_heap _ _ row1 _ _ _ h2w, hCge, hCle, ?_, ?_⟩⟩
    · rw [hrow2]
      simp only [List.size_toArray, List.length_append, List.length_take, List.length_drop, Array.length_toList, hs1, hpl]
      omega
    · have e1 : row1.toList.take ((i + 1) * 2) = pCells (P.take i) ++ pCells [p] := by
        rw [hrow1]
        show ((row0.toList.take (i * 2) ++ pCells [p]) ++ _).take ((i + 1) * 2) = _
        rw [h0t]
        exact List.take_left' (by rw [List.length_append, hpt]; show i * 2 + 2 = (i + 1) * 2; omega)
      rw [hrow2]
      show ((row1.toList.take ((i + 1) * 2) ++ pCells (P.drop i)) ++ _).take ((n + 1) * 2) = _
      rw [e1, List.take_left' (by rw [List.length_append, List.length_append, hpt, hpl]; show i * 2 + 2 + (n - i) * 2 = (n + 1) * 2; omega), ← pCells_app, ← pCells_app, List.append_assoc]
      rfl)
  have HG : Hid (w.grownBy (w2.drew.setRow w.heap.size row2) (some g)) := Lib.hid ⟨by rw [← hw2]; rfl, by rw [← hw2]; rfl, by rw [← hw2]; rfl, by rw [setRow_size]; show w.heap.size ≤ w2.heap.size; omega, fun x hx _ => by
    rw [setRow_other _ _ _ _ (by omega)]
    exact old2 x hx⟩
  have i1 : (i : Int) ≤ (n : Int) := by omega
  have i2 : (0 : Int) ≤ (i : Int) := by omega
  have i3 : ((i : Int) == (n : Int)) = false := by simp only [beq_eq_false_iff_ne, ne_eq]; omega
  have i4 : ¬ (i : Int) = (n : Int) := by omega
  have i5 : (n : Int) ≤ (cap : Int) := by omega
  have i6 : (i : Int) ≤ (cap : Int) := by omega
  have i7 : ¬ cap = i := by omega
  have z1 : IntKind.i64.wrap ((n : Int) + 1) = (n : Int) + 1 := by rw [IntKind.wrap_i64]; omega
  have z2 : IntKind.i64.wrap ((i : Int) + 1) = (i : Int) + 1 := by rw [IntKind.wrap_i64]; omega
  have z3 : IntKind.i64.wrap ((n : Int) + 1 - (i : Int)) = (k : Int) := by rw [IntKind.wrap_i64]; omega
  have q1 : decide ((cap : Int) < (n : Int) + 1) = true := decide_eq_true (by omega)
  have q3 : (i : Int) + 1 ≤ (n : Int) + 1 := by omega
  have q5 : (0 : Int) ≤ (i : Int) + 1 := by omega
  have q6 : (i : Int) + 1 ≤ (C : Int) := by omega
  have q7 : ¬ C = i + 1 := by omega
  have q8 : (i : Int) ≤ (n : Int) + 1 := by omega
  have q9 : ¬ C = i := by omega
  have q10 : (i : Int) ≤ (C : Int) := by omega
  have q11 : (n : Int) + 1 ≤ (C : Int) := by omega
  obtain ⟨w3, hw3⟩ : ∃ w3, w2.drew.setRow w.heap.size row2 = w3 := ⟨_, rfl⟩
  rw [hw3] at HOW HG hcp2
  obtain ⟨w1, hw1⟩ : ∃ w1, w.drew.alloc (.cells row0 140) = w1 := ⟨_, rfl⟩
  rw [hw1] at hap hcp1
  obtain ⟨G, hG⟩ : ∃ G, w.heap.size = G := ⟨_, rfl⟩
  rw [hG] at hap hcp1 hcp2 HOW
  rw [hG]
  clear old1 old2 h1w h2w hz2s hw1 hw2 hw3 hrow0 hrow1 hrow2 hs0 hs1 h0t hcur hsz htk hbg hB ho hn hi hl hroom cells hsplit hpl hpt hlen hne hneB hC hCge hCle hik hk hG hbase
  go_enter Tryz.func74, Tryz.ntmps74
  go_wp2_with (at_builtin; first | (refine Lib.wpList_append_run _ rfl (.tmp 34) (.tmp 39) 131 3 rfl _ _ rfl rfl _ _ (hap _) ?_) | (refine wpList_copy_runI _ rfl (.tmp 43) (.tmp 44) 131 131 rfl _ _ rfl rfl (hcp1 _ _) ?_))
  go_region_law (first | (refine step_copy_runI rfl _ _ 131 131 rfl _ _ (by simp [Act.eval, Act.put]) (by simp [Act.eval, Act.put]) (hcp2 _ _ _) ?_))
  all_goals
    go_wp2
    go_ret
    exact ⟨C, rfl, HOW.out, HG.out⟩
/-- Insert of a slab ahead of others -/
theorem insert_mid (P : List Pg) (p : Pg) (n i : Nat) (hn : P.length = n) (hi : i < n) (hl : n < 1048576) (A : Option Addr) (cap B c base : Nat) (N : Int) (hN : N = (i : Int)) (w : World) (ho : w.ownsRow base 140 2 (.slice A n cap) n (pCells P)) (hB : w.heap[B]? = some (.cells (pCells [p]).toArray 140 (0, 0))) (hne : some B ≠ (Value.slice A n cap).ownBlock) (hbase : base ≤ w.heap.size) :
    Calls Tryz.prog 74 #[.slice A n cap, .int .i64 N, .slice (some ⟨B, 0, none⟩) 1 c] w fun e w' => ∃ A' cap', e = .returned (.slice (some A') (n + 1) cap') ∧ w'.ownsRow base 140 2 (.slice (some A') (n + 1) cap') (n + 1) (pCells (P.take i ++ p :: P.drop i)) ∧ w.grownBy w' (Value.ownBlock (.slice A n cap)) ∧ Below base w w' ∧ (some A'.block = Value.ownBlock (.slice A n cap) ∨ A'.block = w.heap.size) := by
  have hle := ownsRow_le ho
  rcases ho.2 with ⟨_, h0⟩ | ⟨g, cap2, cur, hv, hg, _⟩
  · omega
  · injection hv with e1 _ e3
    subst e1 e3
    have hbl : ∀ w' : World, w.grownBy w' (some g) → Below base w w' := fun w' h => grownBy_below h hg hbase
    by_cases q : n < cap
    · refine (insert_room P p n i hn hi hl g cap B c base N hN q w ho hB (fun e => hne (by rw [e]; rfl))).mono ?_
      rintro e w' ⟨he, ho2, hg2⟩
      exact ⟨⟨g, 0, none⟩, cap, he, ho2, hg2, hbl w' hg2, .inl rfl⟩
    · refine (insert_grow P p n i hn hi hl g cap B c base N hN (by omega) w ho hB hbase).mono ?_
      rintro e w' ⟨cap', he, ho2, hg2⟩
      exact ⟨⟨w.heap.size, 0, none⟩, cap', he, ho2, hg2, hbl w' hg2, .inr rfl⟩
end Go.Proofs.YtflkoabgkgegjaaGreatDoor
