/- append onto a row of the call's own: laws in the forms that a walk meets. No condition. And what follows from it. -/
import Derived.Test.YtflkoabgkgegjaaGreatDoorY6
import Derived.Maps.AppendAt
import Derived.Deep.AppendLies
import Derived.Laws.CopyRow
import Derived.Test.YtflkoabgkgegjaaGreatDoorChecked
/- append onto a row of the call's own: laws in the forms that a walk meets. No condition. -/
namespace Go.Proofs.YtflkoabgkgegjaaGreatDoor
open Go.RowKit

theorem ownsRow_sl {w : World} {base : Nat} {e : TypeId} {A : Option Addr} {n cap : Nat} {size : Nat} {xs : List Value} (h : w.ownsRow base e size (.slice A n cap) n xs) : SlR w A xs := fun hne => by
  rcases h.2 with ⟨hv, h0⟩ | ⟨g, cap', cur, hv, hg, hh, hn, hc, hs, ht⟩
  · exfalso
    apply hne
    have := h.1
    rw [h0, Nat.zero_mul] at this
    exact List.eq_nil_of_length_eq_zero this
  · injection hv with hA
    refine ⟨g, 0, hA, ?_, fun j u hu => ?_⟩
    · rcases Nat.lt_or_ge g w.heap.size with hlt | hge
      · exact hlt
      · rw [Array.getElem?_eq_none hge] at hh; cases hh
    · rw [cell_of_row w g (0 + j) e cur (0, 0) hh]
      rw [← ht] at hu
      have hlt : j < n * size := by
        rcases Nat.lt_or_ge j (n * size) with h1 | h1
        · exact h1
        · rw [List.getElem?_eq_none (by rw [List.length_take]; omega)] at hu; cases hu
      rw [List.getElem?_take_of_lt hlt] at hu
      simpa using hu

theorem ownsRow_le {w : World} {base : Nat} {e : TypeId} {A : Option Addr} {n cap : Nat} {size : Nat} {xs : List Value} (h : w.ownsRow base e size (.slice A n cap) n xs) : n ≤ cap := by
  rcases h.2 with ⟨hv, h0⟩ | ⟨g, cap', cur, hv, hg, hh, hn, _⟩
  · omega
  · injection hv with _ _ hc
    omega

section
variable {P : Program} (w : World)

theorem run_append_of_nil (base : Nat) (t ty e : TypeId) (i : TypeInfo) (size : Nat) (ht : P.underlying t = some (.slice e)) (hi : P.info? e = some i)
    (v : Value) (n : Nat) (xs : List Value) (hown : w.ownsRow base e size v n xs) (c : Nat) : (Builtin.append_ #[t, t] ty #[v, .slice none 0 c]).run P w = .ok v w := by
  rcases hown.2 with ⟨rfl, rfl⟩ | ⟨g, cap, cur, rfl, _, _, hnc, _⟩
  · simp [Builtin.append_, run_underlying ht, sizeOf, typeInfo, hi, Builtin.lenOf, Builtin.firstCells]
  · simp [Builtin.append_, run_underlying ht, sizeOf, typeInfo, hi, Builtin.lenOf, Builtin.firstCells, hnc, storeCells]

theorem run_app (base : Nat) (t ty e : TypeId) (i : TypeInfo) (z : Value) (size bytes : Nat) (ht : P.underlying t = some (.slice e)) (hi : P.info? e = some i) (hz : i.zero = some z)
    (hsize : i.size = size) (hby : i.bytes = bytes) (hzs : z.cells.size = size) (hsz : 0 < size)
    (A0 : Option Addr) (n c0 : Nat) (xs : List Value) (hown : w.ownsRow base e size (.slice A0 n c0) n xs)
    (B : Option Addr) (m c : Nat) (news : List Value) (hl : news.length = m * size) (hr : SlR w B news) (h1 : ∀ u ∈ news, u.oneCell' = true)
    (h63 : n + m ≤ maxLen) (hbytes : (n + m) * bytes ≤ 140737488355328) (hbase : base ≤ w.heap.size) :
    ∃ A cap w', (Builtin.append_ #[t, t] ty #[.slice A0 n c0, .slice B m c]).run P w = .ok (.slice A (n + m) cap) w' ∧ w'.ownsRow base e size (.slice A (n + m) cap) (n + m) (xs ++ news) ∧
      w.grownBy w' (Value.ownBlock (.slice A0 n c0)) ∧ Below base w w' := by
  have key : ∃ v' w', (Builtin.append_ #[t, t] ty #[.slice A0 n c0, .slice B m c]).run P w = .ok v' w' ∧ w'.ownsRow base e size v' (n + m) (xs ++ news) ∧ w.grownBy w' (Value.ownBlock (.slice A0 n c0)) := by
    rcases B with _ | a
    · have hn : news = [] := by
        by_cases h : news = []
        · exact h
        · obtain ⟨b, off, h, _⟩ := hr h
          cases h
      subst hn
      have hm : m = 0 := by
        have : m * size = 0 := by rw [← hl]; rfl
        rcases Nat.mul_eq_zero.1 this with h | h
        · exact h
        · omega
      subst hm
      exact ⟨_, w, run_append_of_nil w base t ty e i size ht hi _ n xs hown c, by simpa using hown, World.grownBy.refl w _⟩
    · have hcells : ∀ j u, news[j]? = some u → w.cell? (a.add j) = some u := by
        intro j u hu
        obtain ⟨b, off, h, _, hc⟩ := hr (by rintro rfl; simp at hu)
        injection h with h
        subst h
        have hadd : (⟨b, off, none⟩ : Addr).add j = ⟨b, off + j, none⟩ := by unfold Addr.add; split <;> simp_all
        rw [hadd]
        exact hc j u hu
      obtain ⟨v', w', hrun, h2, h3, _, _⟩ := run_append_own_at (P := P) w base t ty e i z size bytes ht hi hz hsize hby hzs hsz _ n xs hown a m c news hl hcells h1 h63 hbytes hbase
      exact ⟨v', w', hrun, h2, h3⟩
  obtain ⟨v', w', hrun, h2, h3⟩ := key
  have hb : Below base w w' := (Below.refl base w).grown h3 hbase (fun k hk => (hown.lt k hk).1)
  rcases h2.2 with ⟨rfl, h0⟩ | ⟨g, cap, cur, rfl, _⟩
  · exact ⟨none, 0, w', by rw [h0]; exact hrun, by rw [h0] at h2 ⊢; exact h2, h3, hb⟩
  · exact ⟨some ⟨g, 0, none⟩, cap, w', hrun, h2, h3, hb⟩

theorem wp_app {o : Oper} {a : Act} {K : Act → World → Prop} {Q : Exit → Act → World → Prop} (s x : Operand) (t : TypeId)
    (ho : o.op = .call { callee := .builtin .append, args := #[s, x], argTypes := #[t, t] })
    (base : Nat) (e : TypeId) (i : TypeInfo) (z : Value) (size bytes : Nat) (ht : P.underlying t = some (.slice e)) (hi : P.info? e = some i) (hz : i.zero = some z)
    (hsize : i.size = size) (hby : i.bytes = bytes) (hzs : z.cells.size = size) (hsz : 0 < size)
    (A0 : Option Addr) (n c0 : Nat) (xs : List Value) (hs : a.eval s = .slice A0 n c0) (hown : w.ownsRow base e size (.slice A0 n c0) n xs)
    (B : Option Addr) (m c : Nat) (news : List Value) (hx : a.eval x = .slice B m c) (hl : news.length = m * size) (hr : SlR w B news) (h1 : ∀ u ∈ news, u.oneCell' = true)
    (h63 : n + m ≤ maxLen) (hbytes : (n + m) * bytes ≤ 140737488355328) (hbase : base ≤ w.heap.size)
    (h : ∀ A cap w', w'.ownsRow base e size (.slice A (n + m) cap) (n + m) (xs ++ news) → w.grownBy w' (Value.ownBlock (.slice A0 n c0)) → Below base w w' → K (a.put o.dst (.slice A (n + m) cap)) w') : o.wp P a w K Q := by
  obtain ⟨A, cap, w', hrun, h2, h3, h4⟩ := run_app (P := P) w base t o.type e i z size bytes ht hi hz hsize hby hzs hsz A0 n c0 xs hown B m c news hl hr h1 h63 hbytes hbase
  unfold Oper.wp execOp
  simp only [ho, resolve, invoke, builtin, Sem.run_bind, Sem.run_pure, Result.andThen_ok, List.map_toArray, List.map_cons, List.map_nil, hs, hx, hrun]
  exact h A cap w' h2 h3 h4

theorem wpList_app {ops : Array Oper} {rest : List Oper} {o : Oper} {a : Act} {Q : Exit → Act → World → Prop} (hgd : o.guard = none) (s x : Operand) (t : TypeId)
    (ho : o.op = .call { callee := .builtin .append, args := #[s, x], argTypes := #[t, t] })
    (base : Nat) (e : TypeId) (i : TypeInfo) (z : Value) (size bytes : Nat) (ht : P.underlying t = some (.slice e)) (hi : P.info? e = some i) (hz : i.zero = some z)
    (hsize : i.size = size) (hby : i.bytes = bytes) (hzs : z.cells.size = size) (hsz : 0 < size)
    (A0 : Option Addr) (n c0 : Nat) (xs : List Value) (hs : a.eval s = .slice A0 n c0) (hown : w.ownsRow base e size (.slice A0 n c0) n xs)
    (B : Option Addr) (m c : Nat) (news : List Value) (hx : a.eval x = .slice B m c) (hl : news.length = m * size) (hr : SlR w B news) (h1 : ∀ u ∈ news, u.oneCell' = true)
    (h63 : n + m ≤ maxLen) (hbytes : (n + m) * bytes ≤ 140737488355328) (hbase : base ≤ w.heap.size)
    (h : ∀ A cap w', w'.ownsRow base e size (.slice A (n + m) cap) (n + m) (xs ++ news) → w.grownBy w' (Value.ownBlock (.slice A0 n c0)) → Below base w w' → wpList P ops Q rest (a.put o.dst (.slice A (n + m) cap)) w') : wpList P ops Q (o :: rest) a w :=
  wpList_plain hgd fun _ hK => wp_app w s x t ho base e i z size bytes ht hi hz hsize hby hzs hsz A0 n c0 xs hs hown B m c news hx hl hr h1 h63 hbytes hbase fun A cap w' h2 h3 h4 => hK _ _ (h A cap w' h2 h3 h4)

theorem step_app {ops : Array Oper} {o : Oper} {a : Act} {K : Act → World → Prop} {Q : Exit → Act → World → Prop} {E : Prop} (hgd : o.guard = none) (s x : Operand) (t : TypeId)
    (ho : o.op = .call { callee := .builtin .append, args := #[s, x], argTypes := #[t, t] })
    (base : Nat) (e : TypeId) (i : TypeInfo) (z : Value) (size bytes : Nat) (ht : P.underlying t = some (.slice e)) (hi : P.info? e = some i) (hz : i.zero = some z)
    (hsize : i.size = size) (hby : i.bytes = bytes) (hzs : z.cells.size = size) (hsz : 0 < size)
    (A0 : Option Addr) (n c0 : Nat) (xs : List Value) (hs : a.eval s = .slice A0 n c0) (hown : w.ownsRow base e size (.slice A0 n c0) n xs)
    (B : Option Addr) (m c : Nat) (news : List Value) (hx : a.eval x = .slice B m c) (hl : news.length = m * size) (hr : SlR w B news) (h1 : ∀ u ∈ news, u.oneCell' = true)
    (h63 : n + m ≤ maxLen) (hbytes : (n + m) * bytes ≤ 140737488355328) (hbase : base ≤ w.heap.size)
    (h : ∀ A cap w', w'.ownsRow base e size (.slice A (n + m) cap) (n + m) (xs ++ news) → w.grownBy w' (Value.ownBlock (.slice A0 n c0)) → Below base w w' → K (a.put o.dst (.slice A (n + m) cap)) w') :
    if Region.wanted o (yielded ops a.tmps) = true then Oper.wp P o a w K Q else E := by
  have hw : Region.wanted o (yielded ops a.tmps) = true := by simp [Region.wanted, hgd]
  rw [if_pos hw]
  exact wp_app w s x t ho base e i z size bytes ht hi hz hsize hby hzs hsz A0 n c0 xs hs hown B m c news hx hl hr h1 h63 hbytes hbase h
end

theorem ownsRow_below {w w' : World} {base : Nat} {e : TypeId} {size : Nat} {v : Value} {n : Nat} {xs : List Value} (h : w.ownsRow base e size v n xs) (hb : Below w.heap.size w w') : w'.ownsRow base e size v n xs := by
  refine ⟨h.1, ?_⟩
  rcases h.2 with h0 | ⟨g, cap, cur, hv, hg, hh, r⟩
  · exact .inl h0
  · have hlt : g < w.heap.size := by
      rcases Nat.lt_or_ge g w.heap.size with hlt | hge
      · exact hlt
      · rw [Array.getElem?_eq_none hge] at hh; cases hh
    exact .inr ⟨g, cap, cur, hv, hg, (hb.block g hlt).trans hh, r⟩
/-- the cells of blocks: where they begin (in pages), their orders -/
def bCells (L : List (Nat × Nat)) : List Value := L.flatMap fun x => [.int .i64 ((1024 * x.1 : Nat) : Int), .int .i64 (x.2 : Int)]
theorem tyOf_bCells : ∀ L : List (Nat × Nat), tyOf (bCells L) = 135
  | [] => rfl
  | _ :: _ => rfl
theorem bCells_nil : bCells [] = [] := rfl
theorem bCells_app (L M : List (Nat × Nat)) : bCells (L ++ M) = bCells L ++ bCells M := by simp [bCells]
theorem bCells_length : ∀ L : List (Nat × Nat), (bCells L).length = L.length * 2
  | [] => rfl
  | x :: L => by
    have := bCells_length L
    simp only [bCells, List.flatMap_cons, List.length_append, List.length_cons, List.length_nil] at this ⊢
    omega
theorem bCells_at : ∀ (L : List (Nat × Nat)) (k : Nat) (x : Nat × Nat), L[k]? = some x → (bCells L)[k * 2]? = some (.int .i64 ((1024 * x.1 : Nat) : Int)) ∧ (bCells L)[k * 2 + 1]? = some (.int .i64 (x.2 : Int))
  | [], k, x, h => by simp at h
  | y :: L, 0, x, h => by
    simp only [List.getElem?_cons_zero, Option.some.injEq] at h
    subst h
    exact ⟨rfl, rfl⟩
  | y :: L, k + 1, x, h => by
    have := bCells_at L k x (by simpa using h)
    simp only [bCells, List.flatMap_cons] at this ⊢
    rw [show (k + 1) * 2 = k * 2 + 2 by omega, show k * 2 + 2 + 1 = k * 2 + 1 + 2 by omega]
    exact this
theorem bCells_one (L : List (Nat × Nat)) : ∀ u ∈ bCells L, u.oneCell' = true := by
  intro u hu
  simp only [bCells, List.mem_flatMap, List.mem_cons, List.not_mem_nil, or_false] at hu
  obtain ⟨x, _, rfl | rfl⟩ := hu
  · rfl
  · rfl
theorem SlR.blk {w : World} {A : Option Addr} {L : List (Nat × Nat)} (h : SlR w A (bCells L)) {k : Nat} (hk : k < L.length) : ∃ b off, A = some ⟨b, off, none⟩ ∧ b < w.heap.size ∧ w.cell? ⟨b, off + k * 2, none⟩ = some (.int .i64 ((1024 * L[k].1 : Nat) : Int)) ∧ w.cell? ⟨b, off + (k * 2 + 1), none⟩ = some (.int .i64 (L[k].2 : Int)) := by
  obtain ⟨b, off, e, hlt, hc⟩ := h (fun e => by have := bCells_length L; rw [e] at this; simp at this; omega)
  have h2 := bCells_at L k L[k] (List.getElem?_eq_getElem hk)
  exact ⟨b, off, e, hlt, hc _ _ h2.1, hc _ _ h2.2⟩
theorem info_blk : (Tryz.prog.info? 135).map (fun i => (i.zero, i.size, i.bytes)) = some (some (.agg #[.int .i64 0, .int .i64 0]), 2, 16) := by kernel_rfl
end Go.Proofs.YtflkoabgkgegjaaGreatDoor
/- The contract of Free. Condition: the allocator's state is held, its tiles lie as they may. -/
namespace Go.Proofs.YtflkoabgkgegjaaGreatDoor
open Go.RowKit Go.Maps
variable {W w : World} {S : List (Option Addr × List Value)} {b top : Nat} {gm gw : Nat → Nat} {mu n : Nat} {F : Nat → Nat → Bool} {U : Int → Option Nat}

/-- the free blocks found so far: of the orders below k, and of the order k below the place f -/
structure Got (F : Nat → Nat → Bool) (top k f : Nat) (L : List (Nat × Nat)) : Prop where
  nodup : L.Nodup
  mem : ∀ x, x ∈ L ↔ ∃ i, x.1 = i * 2 ^ x.2 ∧ x.2 ≤ top ∧ i < 2 ^ (top - x.2) ∧ F x.2 i = true ∧ (x.2 < k ∨ x.2 = k ∧ i < f)
  len : L.length ≤ k * 1048576 + f
theorem Got.start (F : Nat → Nat → Bool) (top : Nat) : Got F top 0 0 [] := ⟨List.nodup_nil, fun x => ⟨fun h => absurd h List.not_mem_nil, fun ⟨i, _, _, _, _, h⟩ => by omega⟩, by simp⟩
theorem Got.next {F : Nat → Nat → Bool} {top k f : Nat} {L : List (Nat × Nat)} (h : Got F top k f L) (hk : k ≤ top) (h20 : top ≤ 20) (hf : f ≤ 2 ^ (top - k)) (hn : ∀ i, f ≤ i → i < 2 ^ (top - k) → F k i = false) : Got F top (k + 1) 0 L := by
  refine ⟨h.nodup, fun x => ?_, ?_⟩
  · rw [h.mem]
    constructor
    · rintro ⟨i, h1, h2, h3, h4, h5⟩
      exact ⟨i, h1, h2, h3, h4, by omega⟩
    · rintro ⟨i, h1, h2, h3, h4, h5⟩
      refine ⟨i, h1, h2, h3, h4, ?_⟩
      by_cases e : x.2 = k
      · right
        refine ⟨e, ?_⟩
        by_cases q : i < f
        · exact q
        · rw [e] at h3 h4
          rw [hn i (by omega) h3] at h4
          cases h4
      · left; omega
  · have h1 := h.len
    have h2 : 2 ^ (top - k) ≤ 2 ^ 20 := Nat.pow_le_pow_right (by decide) (by omega)
    have h3 : (2 : Nat) ^ 20 = 1048576 := by decide
    rw [h3] at h2
    rw [Nat.add_mul, Nat.one_mul, Nat.add_zero]
    clear h3 hn
    omega
theorem Got.add {F : Nat → Nat → Bool} {top k f i : Nat} {L : List (Nat × Nat)} (h : Got F top k f L) (hk : k ≤ top) (hfi : f ≤ i) (hi : i < 2 ^ (top - k)) (hb : F k i = true) (hn : ∀ j, f ≤ j → j < i → F k j = false) : Got F top k (i + 1) (L ++ [(i * 2 ^ k, k)]) := by
  refine ⟨?_, fun x => ?_, ?_⟩
  · refine List.nodup_append.2 ⟨h.nodup, by simp, fun x hx y hy => ?_⟩
    rw [List.mem_singleton] at hy
    subst hy
    rintro rfl
    obtain ⟨j, h1, _, _, _, h5⟩ := (h.mem _).1 hx
    have := place_inj (k := k) h1
    omega
  · rw [List.mem_append, List.mem_singleton, h.mem]
    constructor
    · rintro (⟨j, h1, h2, h3, h4, h5⟩ | rfl)
      · exact ⟨j, h1, h2, h3, h4, by omega⟩
      · exact ⟨i, rfl, hk, hi, hb, .inr ⟨rfl, Nat.lt_succ_self _⟩⟩
    · rintro ⟨j, h1, h2, h3, h4, h5⟩
      by_cases e : x.2 = k
      · by_cases q : j < f
        · exact .inl ⟨j, h1, h2, h3, h4, .inr ⟨e, q⟩⟩
        · right
          have e2 : j = i := by
            by_cases q2 : j < i
            · rw [e] at h4
              rw [hn j (by omega) q2] at h4; cases h4
            · omega
          obtain ⟨x1, x2⟩ := x
          simp only at h1 e
          rw [h1, e, e2]
      · exact .inl ⟨j, h1, h2, h3, h4, by omega⟩
  · have := h.len
    simp only [List.length_append, List.length_cons, List.length_nil]
    omega
theorem Got.done {F : Nat → Nat → Bool} {top : Nat} {L : List (Nat × Nat)} {l : List Tl} (h : Got F top (top + 1) 0 L) (hg : Good top l) (hF : FRel F top l) : (∀ x, x ∈ L ↔ x ∈ blks true 0 l) ∧ L.Pairwise (fun x y => x.1 ≠ y.1) := by
  have hm : ∀ x, x ∈ L ↔ x ∈ blks true 0 l := fun x => by
    rw [h.mem]
    constructor
    · rintro ⟨i, h1, h2, h3, h4, _⟩
      have := (hF x.2 i h2 h3).1 h4
      rw [← h1] at this
      exact this
    · intro hx
      obtain ⟨a, c, rfl, hp⟩ := blks_mem hx
      simp only [Nat.zero_add] at hp
      have hle := hg.le (x.2, true) (by simp)
      have hl := (lies_append.1 hg.lies).2.1
      simp only [Nat.zero_add] at hl
      have hM := Mid.of_good hg
      have hpl := hM.place
      rw [span_rev] at hpl
      refine ⟨span a / 2 ^ x.2, by rw [hpl.1, hp], hle, hpl.2, ?_, .inl (by simp only at hle; omega)⟩
      refine (hF x.2 _ hle hpl.2).2 ?_
      rw [hpl.1, ← hp]
      exact hx
  refine ⟨hm, ?_⟩
  have hr := blks_rise true 0 l
  refine (List.pairwise_iff_getElem.2 fun i j hi hj hij => ?_)
  have hne : L[i] ≠ L[j] := List.pairwise_iff_getElem.1 h.nodup i j hi hj hij
  have h1 := (hm L[i]).1 (List.getElem_mem hi)
  have h2 := (hm L[j]).1 (List.getElem_mem hj)
  intro e
  obtain ⟨a, c, e1, hp1⟩ := blks_mem h1
  obtain ⟨a', c', e2, hp2⟩ := blks_mem h2
  rw [e1] at e2
  obtain ⟨_, e3, _⟩ := tile_one e2 (by omega)
  injection e3 with e4 _
  exact hne (Prod.ext e e4)
end Go.Proofs.YtflkoabgkgegjaaGreatDoor
/- The contract of Take. Condition: the allocator's state is held. -/
namespace Go.Proofs.YtflkoabgkgegjaaGreatDoor
open Go.RowKit Go.Maps
variable {V W w : World} {S : List (Option Addr × List Value)} {b top : Nat} {gm gw : Nat → Nat} {mu n : Nat} {F : Nat → Nat → Bool} {U : Int → Option Nat}

set_option maxRecDepth 100000 in
theorem take_arg (h : BSt V W S w b top gm gw mu n F U) (o : Int) (ho : o < 0 ∨ (top : Int) < o) : Calls Tryz.prog 71 #[.pointer (some ⟨b, 0, none⟩), .int .i64 o] w fun e w' => e = .returned (.tuple #[.int .i64 0, .int .i64 1]) ∧ w' = w := by
  have c := h.c0
  have ht := h.tle
  clear h
  by_cases h0 : o < 0
  · clear ho
    go_enter Tryz.func71, Tryz.ntmps71
    go_wp2
    go_ret2
    exact ⟨rfl, rfl⟩
  · have h1 : (top : Int) < o := by omega
    clear ho
    go_enter Tryz.func71, Tryz.ntmps71
    go_wp2
    go_ret2
    exact ⟨rfl, rfl⟩
theorem take_nil (o : Int) (w : World) : Calls Tryz.prog 71 #[.pointer none, .int .i64 o] w fun e w' => e = .returned (.tuple #[.int .i64 0, .int .i64 1]) ∧ w' = w := by
  go_enter Tryz.func71, Tryz.ntmps71
  go_wp2
  go_ret2
  exact ⟨rfl, rfl⟩
/-- the split, as the loop does it: from the order k at i down to j -/
theorem takeF_self (F : Nat → Nat → Bool) (k i : Nat) : takeF F k k i = setF F k i false := by
  funext j x
  unfold takeF setF
  by_cases q : j = k ∧ x = i
  · rw [if_pos q, if_pos q]
  · rw [if_neg q, if_neg q, if_neg (by omega)]
theorem takeF_step (F : Nat → Nat → Bool) (o k i : Nat) (h : o < k) : takeF F o k i = setF (takeF F (o + 1) k i) o (i * 2 ^ (k - o) + 1) true := by
  funext j x
  unfold setF takeF
  by_cases q : j = k ∧ x = i
  · rw [if_pos q, if_neg (by omega), if_pos q]
  · rw [if_neg q, if_neg q]
    by_cases q2 : j = o ∧ x = i * 2 ^ (k - o) + 1
    · obtain ⟨rfl, rfl⟩ := q2
      rw [if_pos ⟨Nat.le_refl _, h, rfl⟩, if_pos ⟨rfl, rfl⟩]
    · rw [if_neg q2]
      by_cases q3 : o + 1 ≤ j ∧ j < k ∧ x = i * 2 ^ (k - j) + 1
      · rw [if_pos q3, if_pos ⟨by omega, q3.2⟩]
      · rw [if_neg q3, if_neg]
        rintro ⟨h1, h2, h3⟩
        by_cases e : j = o
        · subst e; exact q2 ⟨rfl, h3⟩
        · exact q3 ⟨by omega, h2, h3⟩
/-- what Take finds: no block, or the least order and the first place -/
def FindF (F : Nat → Nat → Bool) (top o : Nat) (r : Option (Nat × Nat)) : Prop := match r with
  | none => ∀ j i, o ≤ j → j ≤ top → i < 2 ^ (top - j) → F j i = false
  | some (k, i) => o ≤ k ∧ k ≤ top ∧ i < 2 ^ (top - k) ∧ F k i = true ∧ (∀ j, j < i → F k j = false) ∧ ∀ j x, o ≤ j → j < k → x < 2 ^ (top - j) → F j x = false
set_option maxRecDepth 100000 in
set_option maxHeartbeats 1600000 in
theorem take_b (h : BSt V W S w b top gm gw mu n F U) (hT : TabZ W) (o : Nat) (O : Int) (hO : O = (o : Int)) (ho : o ≤ top) (hn : n < 1000) : Calls Tryz.prog 71 #[.pointer (some ⟨b, 0, none⟩), .int .i64 O] w fun e w' => ∃ r, FindF F top o r ∧ match r with
    | none => e = .returned (.tuple #[.int .i64 0, .int .i64 4]) ∧ w' = w
    | some (k, i) => e = .returned (.tuple #[.int .i64 ((1024 * (i * 2 ^ k) : Nat) : Int), .int .i64 0]) ∧ BSt V W S w' b top gm gw mu (n + 1) (takeF F o k i) (updU U ((1024 * (i * 2 ^ k) : Nat) : Int) (some o)) := by
  have H := Lib.hid h
  have ht := h.tle
  have HO := Lib.hid hO
  obtain ⟨T, hTT⟩ : ∃ T : Int, (top : Int) = T := ⟨_, rfl⟩
  have HTT := Lib.hid hTT
  have t1 : decide (O < 0) = false := decide_eq_false (by omega)
  have t2 : decide (T < O) = false := decide_eq_false (by omega)
  have c := h.c0
  rw [hTT] at c
  have TW : Hid (TabZ w) := Lib.hid (hT.below hT.lt h.way)
  clear h hT hO hTT
  go_enter Tryz.func71, Tryz.ntmps71
  go_wp2
  go_loopw [6, 7] (fun k i wr => wr = w ∧ ∃ j : Nat, o ≤ j ∧ j ≤ top + 1 ∧ k = .int .i64 (j : Int) ∧ i = .int .i64 (-1) ∧ ∀ m x, o ≤ m → m < j → m ≤ top → x < 2 ^ (top - m) → F m x = false) (fun k _ _ => top + 1 - (intOf k).toNat)
  case atStart => exact ⟨rfl, o, Nat.le_refl _, by omega, by rw [HO.out], rfl, fun m x h1 h2 => by omega⟩
  case round =>
    obtain ⟨rfl, j, hj1, hj2, rfl, rfl, hz⟩ := hrel
    have HZ := Lib.hid hz
    clear hz
    by_cases q : j ≤ top
    · have q1 : decide ((j : Int) ≤ T) = true := decide_eq_true (by have := HTT.out; omega)
      have j0 : (0 : Int) ≤ (j : Int) := by omega
      have j1 : (j : Int) < 21 := by omega
      have c1 := H.out.ck j q
      go_wp2_with fail
      refine (first_b H.out TW.out j q 0 0 rfl (by omega)).mono ?_
      rintro e w' ⟨r, rfl, hr, rfl⟩
      rcases hr with ⟨rfl, hr⟩ | ⟨i, rfl, -, hi, hb, hf⟩
      · have HR := Lib.hid hr
        clear hr
        go_wp2
        go_roundw
        case rel =>
          refine ⟨by first | rfl | trivial, j + 1, by omega, by omega, by go_num, by first | rfl | trivial, fun m x h1 h2 h3 h4 => ?_⟩
          by_cases e : m = j
          · subst e; exact HR.out x (Nat.zero_le _) h4
          · exact HZ.out m x h1 (by omega) h3 h4
        case measure => (try simp [intOf]) <;> omega
      · have p0 : decide ((0 : Int) ≤ (i : Int)) = true := decide_eq_true (by omega)
        have p1 : decide ((i : Int) < (0 : Int)) = false := decide_eq_false (by omega)
        have FD : Hid (FindF F top o (some (j, i))) := Lib.hid ⟨hj1, q, hi, hb, fun x hx => hf x (Nat.zero_le _) hx, fun m x h1 h2 h3 => HZ.out m x h1 h2 (by omega) h3⟩
        have HI := Lib.hid hi
        have HB := Lib.hid hb
        obtain ⟨F1, hF1⟩ : ∃ F1, F1 = setF F j i false := ⟨_, rfl⟩
        have HF1 := Lib.hid hF1
        clear hf hb hi hF1
        have hI2 : Hid (i < 2097152) := Lib.hid (by
          have h1 := HI.out
          have h2 : 2 ^ (top - j) ≤ 2 ^ 20 := Nat.pow_le_pow_right (by decide) (by omega)
          omega)
        go_wp2_with fail
        refine (set_b H.out j q false i _ rfl HI.out 1 (by rw [HB.out]; rfl) F1 HF1.out).mono ?_
        rintro e w2 ⟨rfl, h2⟩
        have H2 := Lib.hid h2
        clear h2 c1
        have c := H2.out.c0
        rw [HTT.out] at c
        rename World => wa
        go_wp2_with fail
        rename World => wb
        go_loopw [6, 7] (fun k y wr => ∃ m, o ≤ m ∧ m ≤ j ∧ k = .int .i64 (m : Int) ∧ y = .int .i64 ((i * 2 ^ (j - m) : Nat) : Int) ∧ BSt V W S wr b top gm gw mu n (takeF F m j i) U) (fun k _ _ => (intOf k).toNat)
        case atStart => exact ⟨j, hj1, Nat.le_refl _, rfl, by simp, by rw [takeF_self, ← HF1.out]; exact H2.out⟩
        case round =>
          obtain ⟨m, hm1, hm2, rfl, rfl, h3⟩ := hrel
          have H3 := Lib.hid h3
          have c3 := h3.c0
          rw [HTT.out] at c3
          clear h3 H2
          have hpw : Hid (i * 2 ^ (j - m) < 2097152) := Lib.hid (by
            have h1 := HI.out
            have h2 : i * 2 ^ (j - m) < 2 ^ (top - m) := by
              have e : 2 ^ (top - m) = 2 ^ (top - j) * 2 ^ (j - m) := by rw [← Nat.pow_add]; congr 1; omega
              rw [e]
              exact Nat.mul_lt_mul_of_pos_right h1 (two_pos _)
            have h3 : 2 ^ (top - m) ≤ 2 ^ 20 := Nat.pow_le_pow_right (by decide) (by omega)
            omega)
          obtain ⟨y, hy⟩ : ∃ y, y = i * 2 ^ (j - m) := ⟨_, rfl⟩
          rw [← hy] at hpw ⊢
          have HY := Lib.hid hy
          clear hy
          by_cases e : o < m
          · have e1 : decide (O < (m : Int)) = true := decide_eq_true (by have := HO.out; omega)
            have m0 : (1 : Int) ≤ (m : Int) := by omega
            have m1 : (m : Int) < 22 := by omega
            obtain ⟨m', hm'⟩ : ∃ m', m = m' + 1 := ⟨m - 1, by omega⟩
            subst hm'
            have zm : IntKind.i64.wrap (((m' + 1 : Nat) : Int) - 1) = (m' : Int) := by rw [IntKind.wrap_i64]; omega
            have n0 : (0 : Int) ≤ (m' : Int) := by omega
            have n1 : (m' : Int) < 21 := by omega
            obtain ⟨M, hM⟩ : ∃ M : Int, ((m' + 1 : Nat) : Int) = M := ⟨_, rfl⟩
            obtain ⟨Y, hY⟩ : ∃ Y : Int, (y : Int) = Y := ⟨_, rfl⟩
            obtain ⟨Y2, hY2⟩ : ∃ Y2 : Int, Y * 2 = Y2 := ⟨_, rfl⟩
            obtain ⟨Y3, hY3⟩ : ∃ Y3 : Int, Y2 + 1 = Y3 := ⟨_, rfl⟩
            have z1 : IntKind.i64.wrap (Y * 2) = Y2 := by rw [IntKind.wrap_i64]; have := hpw.out; omega
            have z2 : IntKind.i64.wrap (Y2 + 1) = Y3 := by rw [IntKind.wrap_i64]; have := hpw.out; omega
            rw [hM] at zm e1 m0 m1
            simp only [hM, hY]
            have HY3 : Hid (Y3 = ((y * 2 + 1 : Nat) : Int)) := Lib.hid (by omega)
            have HY2 : Hid (Y2 = ((y * 2 : Nat) : Int)) := Lib.hid (by omega)
            have HM := Lib.hid hM
            clear hM hY hY2 hY3
            have c4 := H3.out.ck m' (by omega)
            obtain ⟨F2, hF2⟩ : ∃ F2, F2 = takeF F m' j i := ⟨_, rfl⟩
            have HF2 := Lib.hid hF2
            clear hF2
            go_wp2_with fail
            have hin : y * 2 + 1 < 2 ^ (top - m') := by
              have h1 := HI.out
              rw [HY.out]
              have e5 : 2 ^ (top - m') = 2 ^ (top - j) * 2 ^ (j - (m' + 1)) * 2 := by rw [← Nat.pow_add, ← Nat.pow_succ]; congr 1; omega
              rw [e5]
              have := Nat.mul_le_mul_right (2 ^ (j - (m' + 1))) (show i + 1 ≤ 2 ^ (top - j) by omega)
              have := two_pos (j - (m' + 1))
              rw [Nat.add_mul, Nat.one_mul] at *
              omega
            have hpl : y * 2 = i * 2 ^ (j - m') := by
              rw [HY.out, Nat.mul_assoc, ← Nat.pow_succ]
              congr 2
              omega
            refine (set_b H3.out m' (by omega) true (y * 2 + 1) _ HY3.out hin 1 ?_ F2 ?_).mono ?_
            · rw [if_neg]
              intro hc
              unfold takeF at hc
              rw [if_neg (by omega), if_neg (by omega)] at hc
              have := FD.out.2.2.2.2.2 m' (y * 2 + 1) (by omega) (by omega) hin
              rw [this] at hc
              cases hc
            · rw [HF2.out, takeF_step F m' j i (by omega), hpl]
            rintro e w4 ⟨rfl, h4⟩
            have H4 := Lib.hid h4
            clear h4 c4 c3
            go_wp2
            go_roundw
            case rel => exact ⟨m', by omega, by omega, by first | rfl | trivial, by rw [HY2.out, hpl], by rw [← HF2.out]; exact H4.out⟩
            case measure => have := HM.out; simp [intOf]; omega
          · have e1 : decide (O < (m : Int)) = false := decide_eq_false (by have := HO.out; omega)
            have e2 : m = o := by omega
            subst e2
            have c5 := H3.out.c22
            clear e hm1
            obtain ⟨Y, hY⟩ : ∃ Y : Int, (y : Int) = Y := ⟨_, rfl⟩
            obtain ⟨Y2, hY2⟩ : ∃ Y2 : Int, Y * 1024 = Y2 := ⟨_, rfl⟩
            obtain ⟨at_, hat_⟩ : ∃ at_ : Int, at_ = ((1024 * (i * 2 ^ j) : Nat) : Int) := ⟨_, rfl⟩
            have hij : i * 2 ^ j < 2 ^ top := (lt_of_mul q).1 HI.out
            have hij2 : 2 ^ top ≤ 2 ^ 20 := Nat.pow_le_pow_right (by decide) ht
            have hyo : y * 1024 * 2 ^ m = 1024 * (i * 2 ^ j) := by
              rw [HY.out, Nat.mul_right_comm, Nat.mul_assoc i, ← Nat.pow_add, show j - m + m = j by omega, Nat.mul_comm]
            have hs : ∀ w, (Op.shift .shl .i64 Y2 .i64 O).run Tryz.prog w = .ok (.int .i64 at_) w := fun w =>
              run_shl (y * 1024) m _ _ _ (by omega) HO.out (by rw [hat_, hyo]) (by rw [hyo]; omega) (by omega) w
            have hwf : Hid ((Lit.int .i64 at_).wf = true) := Lib.hid (WalkArith.wf_i64 (by rw [hat_]; omega))
            have hwo : Hid ((Lit.int .i64 O).wf = true) := Lib.hid (WalkArith.wf_i64 (by have := HO.out; omega))
            have HAT := Lib.hid hat_
            obtain ⟨D, ho, hh, ha⟩ := H3.out.used
            have HOw := Lib.hid ho
            have HHa := Lib.hid hh
            have HAt := Lib.hid ha
            have z1 : IntKind.i64.wrap (Y * 1024) = Y2 := by rw [IntKind.wrap_i64]; have := hpw.out; omega
            clear ho hh ha hij hij2 hyo hat_ hY2
            simp only [hY]
            go_wp2_with (first | (at_mapUpdate; refine wpList_mapUpdate_in _ rfl _ _ _ 125 rfl 3 3 keyed_int Tryz.underlying125 _ mu n D rfl HOw.out (by unfold maxLen; omega) _ _ _ rfl rfl (keyOf_int_mk Tryz.underlying3 hwf.out) _ [] (plainElem_int Tryz.underlying3 hwo.out) ?_; intro w1 hown1 hturn1) | fail)
            go_ret2
            rw [HO.out] at hown1
            have hu := UsedAt.put (k := m) HOw.out HHa.out HAt.out hown1
            refine ⟨some (j, i), FD.out, by rw [← HAT.out]; rfl, ?_⟩
            rw [← HAT.out]
            exact H3.out.turn hturn1 hu
    · have q1 : decide ((j : Int) ≤ T) = false := decide_eq_false (by have := HTT.out; omega)
      go_wp2
      go_ret2
      exact ⟨none, fun m x h1 h2 h3 => HZ.out m x h1 (by omega) h2 h3, rfl, rfl⟩
end Go.Proofs.YtflkoabgkgegjaaGreatDoor
