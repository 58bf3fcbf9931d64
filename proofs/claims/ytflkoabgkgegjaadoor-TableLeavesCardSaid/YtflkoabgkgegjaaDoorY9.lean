/- append onto a row of the call's own: laws in the forms that a walk meets. No condition. And what follows from it. -/
import Derived.Test.YtflkoabgkgegjaaDoorY8
import Derived.Maps.AppendAt
import Derived.Deep.AppendLies
import Derived.Laws.CopyRow
import Derived.Test.YtflkoabgkgegjaaDoorChecked
/- append onto a row of the call's own: laws in the forms that a walk meets. No condition. -/
namespace Go.Proofs.YtflkoabgkgegjaaDoor
open Go.RowKit

theorem ownsRow_sl {w : World} {base : Nat} {e : TypeId} {A : Option Addr} {n cap : Nat} {size : Nat} {xs : List Value} (h : w.ownsRow base e size (.slice A n cap) n xs) : SlR w A xs := fun hne => by
  rcases h.2 with ⟨hv, h0⟩ | ⟨g, cap', cur, hv, hg, hh, hn, hc, hs, ht⟩
  · exfalso
    apply hne
    have := h.1
    rw [h0, Nat.zero_mul] at this
    exact List.eq_nil_of_length_eq_zero this
  · injection hv with hA
    refine ⟨g, 0, hA, ?_, fun j u hu => ?_⟩
    · rcases Nat.lt_or_ge g w.heap.size with hlt | hge
      · exact hlt
      · rw [Array.getElem?_eq_none hge] at hh; cases hh
    · rw [cell_of_row w g (0 + j) e cur (0, 0) hh]
      rw [← ht] at hu
      have hlt : j < n * size := by
        rcases Nat.lt_or_ge j (n * size) with h1 | h1
        · exact h1
        · rw [List.getElem?_eq_none (by rw [List.length_take]; omega)] at hu; cases hu
      rw [List.getElem?_take_of_lt hlt] at hu
      simpa using hu

theorem ownsRow_le {w : World} {base : Nat} {e : TypeId} {A : Option Addr} {n cap : Nat} {size : Nat} {xs : List Value} (h : w.ownsRow base e size (.slice A n cap) n xs) : n ≤ cap := by
  rcases h.2 with ⟨hv, h0⟩ | ⟨g, cap', cur, hv, hg, hh, hn, _⟩
  · omega
  · injection hv with _ _ hc
    omega

section
variable {P : Program} (w : World)

theorem run_append_of_nil (base : Nat) (t ty e : TypeId) (i : TypeInfo) (size : Nat) (ht : P.underlying t = some (.slice e)) (hi : P.info? e = some i)
    (v : Value) (n : Nat) (xs : List Value) (hown : w.ownsRow base e size v n xs) (c : Nat) : (Builtin.append_ #[t, t] ty #[v, .slice none 0 c]).run P w = .ok v w := by
  rcases hown.2 with ⟨rfl, rfl⟩ | ⟨g, cap, cur, rfl, _, _, hnc, _⟩
  · simp [Builtin.append_, run_underlying ht, sizeOf, typeInfo, hi, Builtin.lenOf, Builtin.firstCells]
  · simp [Builtin.append_, run_underlying ht, sizeOf, typeInfo, hi, Builtin.lenOf, Builtin.firstCells, hnc, storeCells]

theorem run_app (base : Nat) (t ty e : TypeId) (i : TypeInfo) (z : Value) (size bytes : Nat) (ht : P.underlying t = some (.slice e)) (hi : P.info? e = some i) (hz : i.zero = some z)
    (hsize : i.size = size) (hby : i.bytes = bytes) (hzs : z.cells.size = size) (hsz : 0 < size)
    (A0 : Option Addr) (n c0 : Nat) (xs : List Value) (hown : w.ownsRow base e size (.slice A0 n c0) n xs)
    (B : Option Addr) (m c : Nat) (news : List Value) (hl : news.length = m * size) (hr : SlR w B news) (h1 : ∀ u ∈ news, u.oneCell' = true)
    (h63 : n + m ≤ maxLen) (hbytes : (n + m) * bytes ≤ 140737488355328) (hbase : base ≤ w.heap.size) :
    ∃ A cap w', (Builtin.append_ #[t, t] ty #[.slice A0 n c0, .slice B m c]).run P w = .ok (.slice A (n + m) cap) w' ∧ w'.ownsRow base e size (.slice A (n + m) cap) (n + m) (xs ++ news) ∧
      w.grownBy w' (Value.ownBlock (.slice A0 n c0)) ∧ Below base w w' := by
  have key : ∃ v' w', (Builtin.append_ #[t, t] ty #[.slice A0 n c0, .slice B m c]).run P w = .ok v' w' ∧ w'.ownsRow base e size v' (n + m) (xs ++ news) ∧ w.grownBy w' (Value.ownBlock (.slice A0 n c0)) := by
    rcases B with _ | a
    · have hn : news = [] := by
        by_cases h : news = []
        · exact h
        · obtain ⟨b, off, h, _⟩ := hr h
          cases h
      subst hn
      have hm : m = 0 := by
        have : m * size = 0 := by rw [← hl]; rfl
        rcases Nat.mul_eq_zero.1 this with h | h
        · exact h
        · omega
      subst hm
      exact ⟨_, w, run_append_of_nil w base t ty e i size ht hi _ n xs hown c, by simpa using hown, World.grownBy.refl w _⟩
    · have hcells : ∀ j u, news[j]? = some u → w.cell? (a.add j) = some u := by
        intro j u hu
        obtain ⟨b, off, h, _, hc⟩ := hr (by rintro rfl; simp at hu)
        injection h with h
        subst h
        have hadd : (⟨b, off, none⟩ : Addr).add j = ⟨b, off + j, none⟩ := by unfold Addr.add; split <;> simp_all
        rw [hadd]
        exact hc j u hu
      obtain ⟨v', w', hrun, h2, h3, _, _⟩ := run_append_own_at (P := P) w base t ty e i z size bytes ht hi hz hsize hby hzs hsz _ n xs hown a m c news hl hcells h1 h63 hbytes hbase
      exact ⟨v', w', hrun, h2, h3⟩
  obtain ⟨v', w', hrun, h2, h3⟩ := key
  have hb : Below base w w' := (Below.refl base w).grown h3 hbase (fun k hk => (hown.lt k hk).1)
  rcases h2.2 with ⟨rfl, h0⟩ | ⟨g, cap, cur, rfl, _⟩
  · exact ⟨none, 0, w', by rw [h0]; exact hrun, by rw [h0] at h2 ⊢; exact h2, h3, hb⟩
  · exact ⟨some ⟨g, 0, none⟩, cap, w', hrun, h2, h3, hb⟩

theorem wp_app {o : Oper} {a : Act} {K : Act → World → Prop} {Q : Exit → Act → World → Prop} (s x : Operand) (t : TypeId)
    (ho : o.op = .call { callee := .builtin .append, args := #[s, x], argTypes := #[t, t] })
    (base : Nat) (e : TypeId) (i : TypeInfo) (z : Value) (size bytes : Nat) (ht : P.underlying t = some (.slice e)) (hi : P.info? e = some i) (hz : i.zero = some z)
    (hsize : i.size = size) (hby : i.bytes = bytes) (hzs : z.cells.size = size) (hsz : 0 < size)
    (A0 : Option Addr) (n c0 : Nat) (xs : List Value) (hs : a.eval s = .slice A0 n c0) (hown : w.ownsRow base e size (.slice A0 n c0) n xs)
    (B : Option Addr) (m c : Nat) (news : List Value) (hx : a.eval x = .slice B m c) (hl : news.length = m * size) (hr : SlR w B news) (h1 : ∀ u ∈ news, u.oneCell' = true)
    (h63 : n + m ≤ maxLen) (hbytes : (n + m) * bytes ≤ 140737488355328) (hbase : base ≤ w.heap.size)
    (h : ∀ A cap w', w'.ownsRow base e size (.slice A (n + m) cap) (n + m) (xs ++ news) → w.grownBy w' (Value.ownBlock (.slice A0 n c0)) → Below base w w' → K (a.put o.dst (.slice A (n + m) cap)) w') : o.wp P a w K Q := by
  obtain ⟨A, cap, w', hrun, h2, h3, h4⟩ := run_app (P := P) w base t o.type e i z size bytes ht hi hz hsize hby hzs hsz A0 n c0 xs hown B m c news hl hr h1 h63 hbytes hbase
  unfold Oper.wp execOp
  simp only [ho, resolve, invoke, builtin, Sem.run_bind, Sem.run_pure, Result.andThen_ok, List.map_toArray, List.map_cons, List.map_nil, hs, hx, hrun]
  exact h A cap w' h2 h3 h4

theorem wpList_app {ops : Array Oper} {rest : List Oper} {o : Oper} {a : Act} {Q : Exit → Act → World → Prop} (hgd : o.guard = none) (s x : Operand) (t : TypeId)
    (ho : o.op = .call { callee := .builtin .append, args := #[s, x], argTypes := #[t, t] })
    (base : Nat) (e : TypeId) (i : TypeInfo) (z : Value) (size bytes : Nat) (ht : P.underlying t = some (.slice e)) (hi : P.info? e = some i) (hz : i.zero = some z)
    (hsize : i.size = size) (hby : i.bytes = bytes) (hzs : z.cells.size = size) (hsz : 0 < size)
    (A0 : Option Addr) (n c0 : Nat) (xs : List Value) (hs : a.eval s = .slice A0 n c0) (hown : w.ownsRow base e size (.slice A0 n c0) n xs)
    (B : Option Addr) (m c : Nat) (news : List Value) (hx : a.eval x = .slice B m c) (hl : news.length = m * size) (hr : SlR w B news) (h1 : ∀ u ∈ news, u.oneCell' = true)
    (h63 : n + m ≤ maxLen) (hbytes : (n + m) * bytes ≤ 140737488355328) (hbase : base ≤ w.heap.size)
    (h : ∀ A cap w', w'.ownsRow base e size (.slice A (n + m) cap) (n + m) (xs ++ news) → w.grownBy w' (Value.ownBlock (.slice A0 n c0)) → Below base w w' → wpList P ops Q rest (a.put o.dst (.slice A (n + m) cap)) w') : wpList P ops Q (o :: rest) a w :=
  wpList_plain hgd fun _ hK => wp_app w s x t ho base e i z size bytes ht hi hz hsize hby hzs hsz A0 n c0 xs hs hown B m c news hx hl hr h1 h63 hbytes hbase fun A cap w' h2 h3 h4 => hK _ _ (h A cap w' h2 h3 h4)

theorem step_app {ops : Array Oper} {o : Oper} {a : Act} {K : Act → World → Prop} {Q : Exit → Act → World → Prop} {E : Prop} (hgd : o.guard = none) (s x : Operand) (t : TypeId)
    (ho : o.op = .call { callee := .builtin .append, args := #[s, x], argTypes := #[t, t] })
    (base : Nat) (e : TypeId) (i : TypeInfo) (z : Value) (size bytes : Nat) (ht : P.underlying t = some (.slice e)) (hi : P.info? e = some i) (hz : i.zero = some z)
    (hsize : i.size = size) (hby : i.bytes = bytes) (hzs : z.cells.size = size) (hsz : 0 < size)
    (A0 : Option Addr) (n c0 : Nat) (xs : List Value) (hs : a.eval s = .slice A0 n c0) (hown : w.ownsRow base e size (.slice A0 n c0) n xs)
    (B : Option Addr) (m c : Nat) (news : List Value) (hx : a.eval x = .slice B m c) (hl : news.length = m * size) (hr : SlR w B news) (h1 : ∀ u ∈ news, u.oneCell' = true)
    (h63 : n + m ≤ maxLen) (hbytes : (n + m) * bytes ≤ 140737488355328) (hbase : base ≤ w.heap.size)
    (h : ∀ A cap w', w'.ownsRow base e size (.slice A (n + m) cap) (n + m) (xs ++ news) → w.grownBy w' (Value.ownBlock (.slice A0 n c0)) → Below base w w' → K (a.put o.dst (.slice A (n + m) cap)) w') :
    if Region.wanted o (yielded ops a.tmps) = true then Oper.wp P o a w K Q else E := by
  have hw : Region.wanted o (yielded ops a.tmps) = true := by simp [Region.wanted, hgd]
  rw [if_pos hw]
  exact wp_app w s x t ho base e i z size bytes ht hi hz hsize hby hzs hsz A0 n c0 xs hs hown B m c news hx hl hr h1 h63 hbytes hbase h
end

theorem ownsRow_below {w w' : World} {base : Nat} {e : TypeId} {size : Nat} {v : Value} {n : Nat} {xs : List Value} (h : w.ownsRow base e size v n xs) (hb : Below w.heap.size w w') : w'.ownsRow base e size v n xs := by
  refine ⟨h.1, ?_⟩
  rcases h.2 with h0 | ⟨g, cap, cur, hv, hg, hh, r⟩
  · exact .inl h0
  · have hlt : g < w.heap.size := by
      rcases Nat.lt_or_ge g w.heap.size with hlt | hge
      · exact hlt
      · rw [Array.getElem?_eq_none hge] at hh; cases hh
    exact .inr ⟨g, cap, cur, hv, hg, (hb.block g hlt).trans hh, r⟩
/-- the cells of blocks: where they begin (in pages), their orders -/
def bCells (L : List (Nat × Nat)) : List Value := L.flatMap fun x => [.int .i64 ((1024 * x.1 : Nat) : Int), .int .i64 (x.2 : Int)]
theorem bCells_nil : bCells [] = [] := rfl
theorem bCells_app (L M : List (Nat × Nat)) : bCells (L ++ M) = bCells L ++ bCells M := by simp [bCells]
theorem bCells_length : ∀ L : List (Nat × Nat), (bCells L).length = L.length * 2
  | [] => rfl
  | x :: L => by
    have := bCells_length L
    simp only [bCells, List.flatMap_cons, List.length_append, List.length_cons, List.length_nil] at this ⊢
    omega
theorem bCells_at : ∀ (L : List (Nat × Nat)) (k : Nat) (x : Nat × Nat), L[k]? = some x → (bCells L)[k * 2]? = some (.int .i64 ((1024 * x.1 : Nat) : Int)) ∧ (bCells L)[k * 2 + 1]? = some (.int .i64 (x.2 : Int))
  | [], k, x, h => by simp at h
  | y :: L, 0, x, h => by
    simp only [List.getElem?_cons_zero, Option.some.injEq] at h
    subst h
    exact ⟨rfl, rfl⟩
  | y :: L, k + 1, x, h => by
    have := bCells_at L k x (by simpa using h)
    simp only [bCells, List.flatMap_cons] at this ⊢
    rw [show (k + 1) * 2 = k * 2 + 2 by omega, show k * 2 + 2 + 1 = k * 2 + 1 + 2 by omega]
    exact this
theorem bCells_one (L : List (Nat × Nat)) : ∀ u ∈ bCells L, u.oneCell' = true := by
  intro u hu
  simp only [bCells, List.mem_flatMap, List.mem_cons, List.not_mem_nil, or_false] at hu
  obtain ⟨x, _, rfl | rfl⟩ := hu
  · rfl
  · rfl
theorem SlR.blk {w : World} {A : Option Addr} {L : List (Nat × Nat)} (h : SlR w A (bCells L)) {k : Nat} (hk : k < L.length) : ∃ b off, A = some ⟨b, off, none⟩ ∧ b < w.heap.size ∧ w.cell? ⟨b, off + k * 2, none⟩ = some (.int .i64 ((1024 * L[k].1 : Nat) : Int)) ∧ w.cell? ⟨b, off + (k * 2 + 1), none⟩ = some (.int .i64 (L[k].2 : Int)) := by
  obtain ⟨b, off, e, hlt, hc⟩ := h (fun e => by have := bCells_length L; rw [e] at this; simp at this; omega)
  have h2 := bCells_at L k L[k] (List.getElem?_eq_getElem hk)
  exact ⟨b, off, e, hlt, hc _ _ h2.1, hc _ _ h2.2⟩
end Go.Proofs.YtflkoabgkgegjaaDoor
/- The contract of Free. Condition: the allocator's state is held, its tiles lie as they may. -/
namespace Go.Proofs.YtflkoabgkgegjaaDoor
open Go.RowKit Go.Maps
variable {W w : World} {S : List (Option Addr × List Value)} {b top : Nat} {gm gw : Nat → Nat} {mu n : Nat} {F : Nat → Nat → Bool} {U : Int → Option Nat}

/-- the free blocks found so far: of the orders below k, and of the order k below the place f -/
structure Got (F : Nat → Nat → Bool) (top k f : Nat) (L : List (Nat × Nat)) : Prop where
  nodup : L.Nodup
  mem : ∀ x, x ∈ L ↔ ∃ i, x.1 = i * 2 ^ x.2 ∧ x.2 ≤ top ∧ i < 2 ^ (top - x.2) ∧ F x.2 i = true ∧ (x.2 < k ∨ x.2 = k ∧ i < f)
  len : L.length ≤ k * 1048576 + f
theorem Got.start (F : Nat → Nat → Bool) (top : Nat) : Got F top 0 0 [] := ⟨List.nodup_nil, fun x => ⟨fun h => absurd h List.not_mem_nil, fun ⟨i, _, _, _, _, h⟩ => by omega⟩, by simp⟩
theorem Got.next {F : Nat → Nat → Bool} {top k f : Nat} {L : List (Nat × Nat)} (h : Got F top k f L) (hk : k ≤ top) (h20 : top ≤ 20) (hf : f ≤ 2 ^ (top - k)) (hn : ∀ i, f ≤ i → i < 2 ^ (top - k) → F k i = false) : Got F top (k + 1) 0 L := by
  refine ⟨h.nodup, fun x => ?_, ?_⟩
  · rw [h.mem]
    constructor
    · rintro ⟨i, h1, h2, h3, h4, h5⟩
      exact ⟨i, h1, h2, h3, h4, by omega⟩
    · rintro ⟨i, h1, h2, h3, h4, h5⟩
      refine ⟨i, h1, h2, h3, h4, ?_⟩
      by_cases e : x.2 = k
      · right
        refine ⟨e, ?_⟩
        by_cases q : i < f
        · exact q
        · rw [e] at h3 h4
          rw [hn i (by omega) h3] at h4
          cases h4
      · left; omega
  · have h1 := h.len
    have h2 : 2 ^ (top - k) ≤ 2 ^ 20 := Nat.pow_le_pow_right (by decide) (by omega)
    have h3 : (2 : Nat) ^ 20 = 1048576 := by decide
    rw [h3] at h2
    rw [Nat.add_mul, Nat.one_mul, Nat.add_zero]
    clear h3 hn
    omega
theorem Got.add {F : Nat → Nat → Bool} {top k f i : Nat} {L : List (Nat × Nat)} (h : Got F top k f L) (hk : k ≤ top) (hfi : f ≤ i) (hi : i < 2 ^ (top - k)) (hb : F k i = true) (hn : ∀ j, f ≤ j → j < i → F k j = false) : Got F top k (i + 1) (L ++ [(i * 2 ^ k, k)]) := by
  refine ⟨?_, fun x => ?_, ?_⟩
  · refine List.nodup_append.2 ⟨h.nodup, by simp, fun x hx y hy => ?_⟩
    rw [List.mem_singleton] at hy
    subst hy
    rintro rfl
    obtain ⟨j, h1, _, _, _, h5⟩ := (h.mem _).1 hx
    have := place_inj (k := k) h1
    omega
  · rw [List.mem_append, List.mem_singleton, h.mem]
    constructor
    · rintro (⟨j, h1, h2, h3, h4, h5⟩ | rfl)
      · exact ⟨j, h1, h2, h3, h4, by omega⟩
      · exact ⟨i, rfl, hk, hi, hb, .inr ⟨rfl, Nat.lt_succ_self _⟩⟩
    · rintro ⟨j, h1, h2, h3, h4, h5⟩
      by_cases e : x.2 = k
      · by_cases q : j < f
        · exact .inl ⟨j, h1, h2, h3, h4, .inr ⟨e, q⟩⟩
        · right
          have e2 : j = i := by
            by_cases q2 : j < i
            · rw [e] at h4
              rw [hn j (by omega) q2] at h4; cases h4
            · omega
          obtain ⟨x1, x2⟩ := x
          simp only at h1 e
          rw [h1, e, e2]
      · exact .inl ⟨j, h1, h2, h3, h4, by omega⟩
  · have := h.len
    simp only [List.length_append, List.length_cons, List.length_nil]
    omega
theorem Got.done {F : Nat → Nat → Bool} {top : Nat} {L : List (Nat × Nat)} {l : List Tl} (h : Got F top (top + 1) 0 L) (hg : Good top l) (hF : FRel F top l) : (∀ x, x ∈ L ↔ x ∈ blks true 0 l) ∧ L.Pairwise (fun x y => x.1 ≠ y.1) := by
  have hm : ∀ x, x ∈ L ↔ x ∈ blks true 0 l := fun x => by
    rw [h.mem]
    constructor
    · rintro ⟨i, h1, h2, h3, h4, _⟩
      have := (hF x.2 i h2 h3).1 h4
      rw [← h1] at this
      exact this
    · intro hx
      obtain ⟨a, c, rfl, hp⟩ := blks_mem hx
      simp only [Nat.zero_add] at hp
      have hle := hg.le (x.2, true) (by simp)
      have hl := (lies_append.1 hg.lies).2.1
      simp only [Nat.zero_add] at hl
      have hM := Mid.of_good hg
      have hpl := hM.place
      rw [span_rev] at hpl
      refine ⟨span a / 2 ^ x.2, by rw [hpl.1, hp], hle, hpl.2, ?_, .inl (by simp only at hle; omega)⟩
      refine (hF x.2 _ hle hpl.2).2 ?_
      rw [hpl.1, ← hp]
      exact hx
  refine ⟨hm, ?_⟩
  have hr := blks_rise true 0 l
  refine (List.pairwise_iff_getElem.2 fun i j hi hj hij => ?_)
  have hne : L[i] ≠ L[j] := List.pairwise_iff_getElem.1 h.nodup i j hi hj hij
  have h1 := (hm L[i]).1 (List.getElem_mem hi)
  have h2 := (hm L[j]).1 (List.getElem_mem hj)
  intro e
  obtain ⟨a, c, e1, hp1⟩ := blks_mem h1
  obtain ⟨a', c', e2, hp2⟩ := blks_mem h2
  rw [e1] at e2
  obtain ⟨_, e3, _⟩ := tile_one e2 (by omega)
  injection e3 with e4 _
  exact hne (Prod.ext e e4)
end Go.Proofs.YtflkoabgkgegjaaDoor
