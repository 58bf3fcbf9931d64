/- append onto a row of the call's own: laws in the forms that a walk meets. No condition. And what follows from it. -/
import Derived.Test.YtbadoihpbemjjaaDoorY7
import Derived.Maps.AppendAt
import Derived.Deep.AppendLies
import Derived.Laws.CopyRow
import Derived.Test.YtbadoihpbemjjaaDoorChecked
import Derived.Shelf.SlGeneric
import Derived.Shelf.SlSortCmp.NoneTotal
import Derived.Ground.SlsfProg
/- append onto a row of the call's own: laws in the forms that a walk meets. No condition. -/
namespace Go.Proofs.YtbadoihpbemjjaaDoor
open Go.RowKit

theorem ownsRow_sl {w : World} {base : Nat} {e : TypeId} {A : Option Addr} {n cap : Nat} {size : Nat} {xs : List Value} (h : w.ownsRow base e size (.slice A n cap) n xs) : SlR w A xs := fun hne => by
  rcases h.2 with ⟨hv, h0⟩ | ⟨g, cap', cur, hv, hg, hh, hn, hc, hs, ht⟩
  · exfalso
    apply hne
    have := h.1
    rw [h0, Nat.zero_mul] at this
    exact List.eq_nil_of_length_eq_zero this
  · injection hv with hA
    refine ⟨g, 0, hA, ?_, fun j u hu => ?_⟩
    · rcases Nat.lt_or_ge g w.heap.size with hlt | hge
      · exact hlt
      · rw [Array.getElem?_eq_none hge] at hh; cases hh
    · rw [cell_of_row w g (0 + j) e cur (0, 0) hh]
      rw [← ht] at hu
      have hlt : j < n * size := by
        rcases Nat.lt_or_ge j (n * size) with h1 | h1
        · exact h1
        · rw [List.getElem?_eq_none (by rw [List.length_take]; omega)] at hu; cases hu
      rw [List.getElem?_take_of_lt hlt] at hu
      simpa using hu

theorem ownsRow_le {w : World} {base : Nat} {e : TypeId} {A : Option Addr} {n cap : Nat} {size : Nat} {xs : List Value} (h : w.ownsRow base e size (.slice A n cap) n xs) : n ≤ cap := by
  rcases h.2 with ⟨hv, h0⟩ | ⟨g, cap', cur, hv, hg, hh, hn, _⟩
  · omega
  · injection hv with _ _ hc
    omega

section
variable {P : Program} (w : World)

theorem run_append_of_nil (base : Nat) (t ty e : TypeId) (i : TypeInfo) (size : Nat) (ht : P.underlying t = some (.slice e)) (hi : P.info? e = some i)
    (v : Value) (n : Nat) (xs : List Value) (hown : w.ownsRow base e size v n xs) (c : Nat) : (Builtin.append_ #[t, t] ty #[v, .slice none 0 c]).run P w = .ok v w := by
  rcases hown.2 with ⟨rfl, rfl⟩ | ⟨g, cap, cur, rfl, _, _, hnc, _⟩
  · simp [Builtin.append_, run_underlying ht, sizeOf, typeInfo, hi, Builtin.lenOf, Builtin.firstCells]
  · simp [Builtin.append_, run_underlying ht, sizeOf, typeInfo, hi, Builtin.lenOf, Builtin.firstCells, hnc, storeCells]

theorem run_app (base : Nat) (t ty e : TypeId) (i : TypeInfo) (z : Value) (size bytes : Nat) (ht : P.underlying t = some (.slice e)) (hi : P.info? e = some i) (hz : i.zero = some z)
    (hsize : i.size = size) (hby : i.bytes = bytes) (hzs : z.cells.size = size) (hsz : 0 < size)
    (A0 : Option Addr) (n c0 : Nat) (xs : List Value) (hown : w.ownsRow base e size (.slice A0 n c0) n xs)
    (B : Option Addr) (m c : Nat) (news : List Value) (hl : news.length = m * size) (hr : SlR w B news) (h1 : ∀ u ∈ news, u.oneCell' = true)
    (h63 : n + m ≤ maxLen) (hbytes : (n + m) * bytes ≤ 140737488355328) (hbase : base ≤ w.heap.size) :
    ∃ A cap w', (Builtin.append_ #[t, t] ty #[.slice A0 n c0, .slice B m c]).run P w = .ok (.slice A (n + m) cap) w' ∧ w'.ownsRow base e size (.slice A (n + m) cap) (n + m) (xs ++ news) ∧
      w.grownBy w' (Value.ownBlock (.slice A0 n c0)) ∧ Below base w w' := by
  have key : ∃ v' w', (Builtin.append_ #[t, t] ty #[.slice A0 n c0, .slice B m c]).run P w = .ok v' w' ∧ w'.ownsRow base e size v' (n + m) (xs ++ news) ∧ w.grownBy w' (Value.ownBlock (.slice A0 n c0)) := by
    rcases B with _ | a
    · have hn : news = [] := by
        by_cases h : news = []
        · exact h
        · obtain ⟨b, off, h, _⟩ := hr h
          cases h
      subst hn
      have hm : m = 0 := by
        have : m * size = 0 := by rw [← hl]; rfl
        rcases Nat.mul_eq_zero.1 this with h | h
        · exact h
        · omega
      subst hm
      exact ⟨_, w, run_append_of_nil w base t ty e i size ht hi _ n xs hown c, by simpa using hown, World.grownBy.refl w _⟩
    · have hcells : ∀ j u, news[j]? = some u → w.cell? (a.add j) = some u := by
        intro j u hu
        obtain ⟨b, off, h, _, hc⟩ := hr (by rintro rfl; simp at hu)
        injection h with h
        subst h
        have hadd : (⟨b, off, none⟩ : Addr).add j = ⟨b, off + j, none⟩ := by unfold Addr.add; split <;> simp_all
        rw [hadd]
        exact hc j u hu
      obtain ⟨v', w', hrun, h2, h3, _, _⟩ := run_append_own_at (P := P) w base t ty e i z size bytes ht hi hz hsize hby hzs hsz _ n xs hown a m c news hl hcells h1 h63 hbytes hbase
      exact ⟨v', w', hrun, h2, h3⟩
  obtain ⟨v', w', hrun, h2, h3⟩ := key
  have hb : Below base w w' := (Below.refl base w).grown h3 hbase (fun k hk => (hown.lt k hk).1)
  rcases h2.2 with ⟨rfl, h0⟩ | ⟨g, cap, cur, rfl, _⟩
  · exact ⟨none, 0, w', by rw [h0]; exact hrun, by rw [h0] at h2 ⊢; exact h2, h3, hb⟩
  · exact ⟨some ⟨g, 0, none⟩, cap, w', hrun, h2, h3, hb⟩

theorem wp_app {o : Oper} {a : Act} {K : Act → World → Prop} {Q : Exit → Act → World → Prop} (s x : Operand) (t : TypeId)
    (ho : o.op = .call { callee := .builtin .append, args := #[s, x], argTypes := #[t, t] })
    (base : Nat) (e : TypeId) (i : TypeInfo) (z : Value) (size bytes : Nat) (ht : P.underlying t = some (.slice e)) (hi : P.info? e = some i) (hz : i.zero = some z)
    (hsize : i.size = size) (hby : i.bytes = bytes) (hzs : z.cells.size = size) (hsz : 0 < size)
    (A0 : Option Addr) (n c0 : Nat) (xs : List Value) (hs : a.eval s = .slice A0 n c0) (hown : w.ownsRow base e size (.slice A0 n c0) n xs)
    (B : Option Addr) (m c : Nat) (news : List Value) (hx : a.eval x = .slice B m c) (hl : news.length = m * size) (hr : SlR w B news) (h1 : ∀ u ∈ news, u.oneCell' = true)
    (h63 : n + m ≤ maxLen) (hbytes : (n + m) * bytes ≤ 140737488355328) (hbase : base ≤ w.heap.size)
    (h : ∀ A cap w', w'.ownsRow base e size (.slice A (n + m) cap) (n + m) (xs ++ news) → w.grownBy w' (Value.ownBlock (.slice A0 n c0)) → Below base w w' → K (a.put o.dst (.slice A (n + m) cap)) w') : o.wp P a w K Q := by
  obtain ⟨A, cap, w', hrun, h2, h3, h4⟩ := run_app (P := P) w base t o.type e i z size bytes ht hi hz hsize hby hzs hsz A0 n c0 xs hown B m c news hl hr h1 h63 hbytes hbase
  unfold Oper.wp execOp
  simp only [ho, resolve, invoke, builtin, Sem.run_bind, Sem.run_pure, Result.andThen_ok, List.map_toArray, List.map_cons, List.map_nil, hs, hx, hrun]
  exact h A cap w' h2 h3 h4

theorem wpList_app {ops : Array Oper} {rest : List Oper} {o : Oper} {a : Act} {Q : Exit → Act → World → Prop} (hgd : o.guard = none) (s x : Operand) (t : TypeId)
    (ho : o.op = .call { callee := .builtin .append, args := #[s, x], argTypes := #[t, t] })
    (base : Nat) (e : TypeId) (i : TypeInfo) (z : Value) (size bytes : Nat) (ht : P.underlying t = some (.slice e)) (hi : P.info? e = some i) (hz : i.zero = some z)
    (hsize : i.size = size) (hby : i.bytes = bytes) (hzs : z.cells.size = size) (hsz : 0 < size)
    (A0 : Option Addr) (n c0 : Nat) (xs : List Value) (hs : a.eval s = .slice A0 n c0) (hown : w.ownsRow base e size (.slice A0 n c0) n xs)
    (B : Option Addr) (m c : Nat) (news : List Value) (hx : a.eval x = .slice B m c) (hl : news.length = m * size) (hr : SlR w B news) (h1 : ∀ u ∈ news, u.oneCell' = true)
    (h63 : n + m ≤ maxLen) (hbytes : (n + m) * bytes ≤ 140737488355328) (hbase : base ≤ w.heap.size)
    (h : ∀ A cap w', w'.ownsRow base e size (.slice A (n + m) cap) (n + m) (xs ++ news) → w.grownBy w' (Value.ownBlock (.slice A0 n c0)) → Below base w w' → wpList P ops Q rest (a.put o.dst (.slice A (n + m) cap)) w') : wpList P ops Q (o :: rest) a w :=
  wpList_plain hgd fun _ hK => wp_app w s x t ho base e i z size bytes ht hi hz hsize hby hzs hsz A0 n c0 xs hs hown B m c news hx hl hr h1 h63 hbytes hbase fun A cap w' h2 h3 h4 => hK _ _ (h A cap w' h2 h3 h4)

theorem step_app {ops : Array Oper} {o : Oper} {a : Act} {K : Act → World → Prop} {Q : Exit → Act → World → Prop} {E : Prop} (hgd : o.guard = none) (s x : Operand) (t : TypeId)
    (ho : o.op = .call { callee := .builtin .append, args := #[s, x], argTypes := #[t, t] })
    (base : Nat) (e : TypeId) (i : TypeInfo) (z : Value) (size bytes : Nat) (ht : P.underlying t = some (.slice e)) (hi : P.info? e = some i) (hz : i.zero = some z)
    (hsize : i.size = size) (hby : i.bytes = bytes) (hzs : z.cells.size = size) (hsz : 0 < size)
    (A0 : Option Addr) (n c0 : Nat) (xs : List Value) (hs : a.eval s = .slice A0 n c0) (hown : w.ownsRow base e size (.slice A0 n c0) n xs)
    (B : Option Addr) (m c : Nat) (news : List Value) (hx : a.eval x = .slice B m c) (hl : news.length = m * size) (hr : SlR w B news) (h1 : ∀ u ∈ news, u.oneCell' = true)
    (h63 : n + m ≤ maxLen) (hbytes : (n + m) * bytes ≤ 140737488355328) (hbase : base ≤ w.heap.size)
    (h : ∀ A cap w', w'.ownsRow base e size (.slice A (n + m) cap) (n + m) (xs ++ news) → w.grownBy w' (Value.ownBlock (.slice A0 n c0)) → Below base w w' → K (a.put o.dst (.slice A (n + m) cap)) w') :
    if Region.wanted o (yielded ops a.tmps) = true then Oper.wp P o a w K Q else E := by
  have hw : Region.wanted o (yielded ops a.tmps) = true := by simp [Region.wanted, hgd]
  rw [if_pos hw]
  exact wp_app w s x t ho base e i z size bytes ht hi hz hsize hby hzs hsz A0 n c0 xs hs hown B m c news hx hl hr h1 h63 hbytes hbase h
end

theorem ownsRow_below {w w' : World} {base : Nat} {e : TypeId} {size : Nat} {v : Value} {n : Nat} {xs : List Value} (h : w.ownsRow base e size v n xs) (hb : Below w.heap.size w w') : w'.ownsRow base e size v n xs := by
  refine ⟨h.1, ?_⟩
  rcases h.2 with h0 | ⟨g, cap, cur, hv, hg, hh, r⟩
  · exact .inl h0
  · have hlt : g < w.heap.size := by
      rcases Nat.lt_or_ge g w.heap.size with hlt | hge
      · exact hlt
      · rw [Array.getElem?_eq_none hge] at hh; cases hh
    exact .inr ⟨g, cap, cur, hv, hg, (hb.block g hlt).trans hh, r⟩
/-- the cells of blocks: where they begin (in pages), their orders -/
def bCells (L : List (Nat × Nat)) : List Value := L.flatMap fun x => [.int .i64 ((1024 * x.1 : Nat) : Int), .int .i64 (x.2 : Int)]
theorem tyOf_bCells : ∀ L : List (Nat × Nat), tyOf (bCells L) = 86
  | [] => rfl
  | _ :: _ => rfl
theorem bCells_nil : bCells [] = [] := rfl
theorem bCells_app (L M : List (Nat × Nat)) : bCells (L ++ M) = bCells L ++ bCells M := by simp [bCells]
theorem bCells_length : ∀ L : List (Nat × Nat), (bCells L).length = L.length * 2
  | [] => rfl
  | x :: L => by
    have := bCells_length L
    simp only [bCells, List.flatMap_cons, List.length_append, List.length_cons, List.length_nil] at this ⊢
    omega
theorem bCells_at : ∀ (L : List (Nat × Nat)) (k : Nat) (x : Nat × Nat), L[k]? = some x → (bCells L)[k * 2]? = some (.int .i64 ((1024 * x.1 : Nat) : Int)) ∧ (bCells L)[k * 2 + 1]? = some (.int .i64 (x.2 : Int))
  | [], k, x, h => by simp at h
  | y :: L, 0, x, h => by
    simp only [List.getElem?_cons_zero, Option.some.injEq] at h
    subst h
    exact ⟨rfl, rfl⟩
  | y :: L, k + 1, x, h => by
    have := bCells_at L k x (by simpa using h)
    simp only [bCells, List.flatMap_cons] at this ⊢
    rw [show (k + 1) * 2 = k * 2 + 2 by omega, show k * 2 + 2 + 1 = k * 2 + 1 + 2 by omega]
    exact this
theorem bCells_one (L : List (Nat × Nat)) : ∀ u ∈ bCells L, u.oneCell' = true := by
  intro u hu
  simp only [bCells, List.mem_flatMap, List.mem_cons, List.not_mem_nil, or_false] at hu
  obtain ⟨x, _, rfl | rfl⟩ := hu
  · rfl
  · rfl
theorem SlR.blk {w : World} {A : Option Addr} {L : List (Nat × Nat)} (h : SlR w A (bCells L)) {k : Nat} (hk : k < L.length) : ∃ b off, A = some ⟨b, off, none⟩ ∧ b < w.heap.size ∧ w.cell? ⟨b, off + k * 2, none⟩ = some (.int .i64 ((1024 * L[k].1 : Nat) : Int)) ∧ w.cell? ⟨b, off + (k * 2 + 1), none⟩ = some (.int .i64 (L[k].2 : Int)) := by
  obtain ⟨b, off, e, hlt, hc⟩ := h (fun e => by have := bCells_length L; rw [e] at this; simp at this; omega)
  have h2 := bCells_at L k L[k] (List.getElem?_eq_getElem hk)
  exact ⟨b, off, e, hlt, hc _ _ h2.1, hc _ _ h2.2⟩
theorem info_blk : (Tryd.prog.info? 86).map (fun i => (i.zero, i.size, i.bytes)) = some (some (.agg #[.int .i64 0, .int .i64 0]), 2, 16) := by kernel_rfl
end Go.Proofs.YtbadoihpbemjjaaDoor
/- The library's sort, laid at this program: each field a fact of the program's own. No condition. -/
namespace Go.Proofs.YtbadoihpbemjjaaDoor
open Go.Shelf
def sortBlk_ren : Go.Shelf.Ren := ⟨fun | 6 => 64 | 15 => 70 | 14 => 69 | 28 => 80 | 29 => 81 | 20 => 72 | 21 => 73 | 22 => 74 | 23 => 75 | 24 => 76 | 25 => 77 | 26 => 78 | 27 => 79 | 46 => 82 | 47 => 83 | 48 => 84 | 49 => 85 | 50 => 86 | 57 => 87 | n => n, fun | 22 => 33 | 24 => 86 | 25 => 105 | 3 => 3 | 39 => 61 | 0 => 0 | 53 => 93 | 55 => 95 | 4 => 4 | 46 => 113 | 45 => 112 | 50 => 76 | 5 => 5 | 9 => 9 | 66 => 118 | 70 => 122 | 76 => 124 | 77 => 46 | n => n, fun | n => n⟩
theorem sortBlk : Go.Proofs.SlLaysF0.n6 Tryd.prog sortBlk_ren := {
  mixed := by kernel_rfl
  f6 := ⟨Tryd.f64.name, by decide, Tryd.func64.trans (congrArg some (by kernel_rfl))⟩
  f14 := ⟨Tryd.f69.name, by decide, Tryd.func69.trans (congrArg some (by kernel_rfl))⟩
  f15 := Tryd.func70.trans (congrArg some (by kernel_rfl))
  f20 := ⟨Tryd.f72.name, by decide, Tryd.func72.trans (congrArg some (by kernel_rfl))⟩
  f21 := ⟨Tryd.f73.name, by decide, Tryd.func73.trans (congrArg some (by kernel_rfl))⟩
  f22 := ⟨Tryd.f74.name, by decide, Tryd.func74.trans (congrArg some (by kernel_rfl))⟩
  f23 := ⟨Tryd.f75.name, by decide, Tryd.func75.trans (congrArg some (by kernel_rfl))⟩
  f24 := ⟨Tryd.f76.name, by decide, Tryd.func76.trans (congrArg some (by kernel_rfl))⟩
  f25 := ⟨Tryd.f77.name, by decide, Tryd.func77.trans (congrArg some (by kernel_rfl))⟩
  f26 := ⟨Tryd.f78.name, by decide, Tryd.func78.trans (congrArg some (by kernel_rfl))⟩
  f27 := ⟨Tryd.f79.name, by decide, Tryd.func79.trans (congrArg some (by kernel_rfl))⟩
  f28 := Tryd.func80.trans (congrArg some (by kernel_rfl))
  f29 := Tryd.func81.trans (congrArg some (by kernel_rfl))
  f46 := ⟨Tryd.f82.name, by decide, Tryd.func82.trans (congrArg some (by kernel_rfl))⟩
  f47 := Tryd.func83.trans (congrArg some (by kernel_rfl))
  f48 := Tryd.func84.trans (congrArg some (by kernel_rfl))
  f49 := ⟨Tryd.f85.name, by decide, Tryd.func85.trans (congrArg some (by kernel_rfl))⟩
  f50 := ⟨Tryd.f86.name, by decide, Tryd.func86.trans (congrArg some (by kernel_rfl))⟩
  f57 := ⟨Tryd.f87.name, by decide, Tryd.func87.trans (congrArg some (by kernel_rfl))⟩
  t0 := Tryd.underlying0
  a0 := Tryd.isAgg0
  z0 := Tryd.sizeOf0
  v0 := Tryd.zeroValue0
  t3 := Tryd.underlying3
  a3 := Tryd.isAgg3
  z3 := Tryd.sizeOf3
  v3 := Tryd.zeroValue3
  t4 := Tryd.underlying4
  a4 := Tryd.isAgg4
  z4 := Tryd.sizeOf4
  v4 := Tryd.zeroValue4
  t5 := Tryd.underlying5
  a5 := Tryd.isAgg5
  z5 := Tryd.sizeOf5
  v5 := Tryd.zeroValue5
  t9 := Tryd.underlying9
  a9 := Tryd.isAgg9
  z9 := Tryd.sizeOf9
  v9 := Tryd.zeroValue9
  t22 := Tryd.underlying33
  a22 := Tryd.isAgg33
  z22 := Tryd.sizeOf33
  v22 := Tryd.zeroValue33
  t25 := Tryd.underlying105
  a25 := Tryd.isAgg105
  z25 := Tryd.sizeOf105
  v25 := Tryd.zeroValue105
  t39 := Tryd.underlying61
  a39 := Tryd.isAgg61
  z39 := Tryd.sizeOf61
  v39 := Tryd.zeroValue61
  t45 := Tryd.underlying112
  a45 := Tryd.isAgg112
  z45 := Tryd.sizeOf112
  v45 := Tryd.zeroValue112
  t46 := Tryd.underlying113
  a46 := Tryd.isAgg113
  z46 := Tryd.sizeOf113
  v46 := Tryd.zeroValue113
  t50 := Tryd.underlying76
  a50 := Tryd.isAgg76
  z50 := Tryd.sizeOf76
  v50 := Tryd.zeroValue76
  t53 := Tryd.underlying93
  a53 := Tryd.isAgg93
  z53 := Tryd.sizeOf93
  v53 := Tryd.zeroValue93
  t55 := Tryd.underlying95
  a55 := Tryd.isAgg95
  z55 := Tryd.sizeOf95
  v55 := Tryd.zeroValue95
  t66 := Tryd.underlying118
  a66 := Tryd.isAgg118
  z66 := Tryd.sizeOf118
  v66 := Tryd.zeroValue118
  t70 := Tryd.underlying122
  a70 := Tryd.isAgg122
  z70 := Tryd.sizeOf122
  v70 := Tryd.zeroValue122
  t76 := Tryd.underlying124
  a76 := Tryd.isAgg124
  z76 := Tryd.sizeOf124
  v76 := Tryd.zeroValue124
  t77 := Tryd.underlying46
  a77 := Tryd.isAgg46
  z77 := Tryd.sizeOf46
  v77 := Tryd.zeroValue46 }
end Go.Proofs.YtbadoihpbemjjaaDoor
/- The contract of sorted: blocks by rising addresses. Condition: no two blocks have one address. -/
namespace Go.Proofs.YtbadoihpbemjjaaDoor
open Go.RowKit Go.Sort

theorem compare_any (x y : Int) (W : World) : Calls Tryd.prog 60 #[.int .i64 x, .int .i64 y] W fun e w' => e = .returned (.int .i64 (Lib.compareInt x y)) ∧ w' = W := by
  have hn : ∀ x W, Calls Tryd.prog 67 #[.int .i64 x] W fun e w' => e = .returned (.bool false) ∧ w' = W := fun x W => by
    go_enter Tryd.func67, Tryd.ntmps67
    go_wp2
    go_ret
    exact ⟨rfl, rfl⟩
  unfold Lib.compareInt
  by_cases h1 : x < y
  · rw [if_pos h1]
    go_enter Tryd.func60, Tryd.ntmps60
    go_wp2_with (go_at_call 67; refine (hn _ _).mono ?_; rintro e w' ⟨rfl, rfl⟩)
    go_ret
    exact ⟨rfl, rfl⟩
  · rw [if_neg h1]
    by_cases h2 : y < x
    · rw [if_pos h2]
      go_enter Tryd.func60, Tryd.ntmps60
      go_wp2_with (go_at_call 67; refine (hn _ _).mono ?_; rintro e w' ⟨rfl, rfl⟩)
      go_ret
      exact ⟨rfl, rfl⟩
    · rw [if_neg h2]
      go_enter Tryd.func60, Tryd.ntmps60
      go_wp2_with (go_at_call 67; refine (hn _ _).mono ?_; rintro e w' ⟨rfl, rfl⟩)
      go_ret
      exact ⟨rfl, rfl⟩
def encB (x : Nat × Nat) : List Value := [.int .i64 ((1024 * x.1 : Nat) : Int), .int .i64 (x.2 : Int)]
def cfB (x y : Nat × Nat) : Int := Lib.compareInt ((1024 * x.1 : Nat) : Int) ((1024 * y.1 : Nat) : Int)
theorem ltB (x y : Nat × Nat) : ltOf cfB x y = decide (x.1 < y.1) := by
  unfold ltOf cfB Lib.compareInt
  by_cases h1 : x.1 < y.1
  · rw [if_pos (by omega)]; simp [h1]
  · rw [if_neg (by omega)]
    by_cases h2 : y.1 < x.1
    · rw [if_pos (by omega)]; simp [h1]
    · rw [if_neg (by omega)]; simp [h1]
theorem swoB : SWO (ltOf cfB) where
  irrefl x := by rw [ltB]; simp
  trans x y z h1 h2 := by rw [ltB] at *; simp at *; omega
  ntrans x y z h1 h2 := by rw [ltB] at *; simp at *; omega
set_option maxHeartbeats 1000000 in
theorem closure_b (x y : Nat × Nat) (W : World) : Calls Tryd.prog 65 #[.agg (encB x).toArray, .agg (encB y).toArray] W fun e w' => e = .returned (.int .i64 (cfB x y)) ∧ ∃ q os', w' = grow (W.drewN q) os' := by
  unfold cfB encB
  generalize ((1024 * x.1 : Nat) : Int) = X
  generalize ((1024 * y.1 : Nat) : Int) = Y
  generalize (x.2 : Int) = X2
  generalize (y.2 : Int) = Y2
  have hcon := fun W' => compare_any X Y W'
  generalize Lib.compareInt X Y = r at hcon ⊢
  go_enter Tryd.func65, Tryd.ntmps65
  go_wp2_with (go_at_call 60; refine (hcon _).mono ?_; rintro e w' ⟨rfl, rfl⟩)
  go_ret
  exact ⟨rfl, 0, _, by rw [alloc_eq_grow, alloc_eq_grow, grow_grow]; rfl⟩
theorem cmpB (blk off size : Nat) (w : World) : CmpLays Tryd.prog 65 #[] encB 2 cfB blk off size w := fun _ _ _ _ x y => closure_b x y _
theorem aggB (w : World) : (isAgg 86).run Tryd.prog w = .ok true w := Tryd.isAgg86 w
theorem sizeB (w : World) : (Go.sizeOf 86).run Tryd.prog w = .ok 2 w := Tryd.sizeOf86 w
end Go.Proofs.YtbadoihpbemjjaaDoor
