/- Insert of a slab at the end. Condition: the row of slabs is owned. -/
import Derived.Test.YtbadoihpbemjjaaDoorT2
namespace Go.Proofs.YtbadoihpbemjjaaDoor
open Go.RowKit Go.Maps

theorem info_pg : (Tryd.prog.info? 73).map (fun i => (i.zero, i.size, i.bytes)) = some (some (.agg #[.pointer none, .int .i64 0]), 2, 16) := by kernel_rfl
section
variable {P : Program} (w : World)
/-- append of cells that are there, and which block the new slice has -/
theorem wpList_app2 {ops : Array Oper} {rest : List Oper} {o : Oper} {a : Act} {Q : Exit → Act → World → Prop} (hgd : o.guard = none) (s x : Operand) (t : TypeId)
    (ho : o.op = .call { callee := .builtin .append, args := #[s, x], argTypes := #[t, t] })
    (base : Nat) (e : TypeId) (i : TypeInfo) (z : Value) (size bytes : Nat) (ht : P.underlying t = some (.slice e)) (hi : P.info? e = some i) (hz : i.zero = some z)
    (hsize : i.size = size) (hby : i.bytes = bytes) (hzs : z.cells.size = size) (hsz : 0 < size)
    (A0 : Option Addr) (n c0 : Nat) (xs : List Value) (hs : a.eval s = .slice A0 n c0) (hown : w.ownsRow base e size (.slice A0 n c0) n xs)
    (B : Addr) (m c : Nat) (news : List Value) (hx : a.eval x = .slice (some B) m c) (hm : 0 < m) (hl : news.length = m * size) (hr : SlR w (some B) news) (h1 : ∀ u ∈ news, u.oneCell' = true)
    (h63 : n + m ≤ maxLen) (hbytes : (n + m) * bytes ≤ 140737488355328) (hbase : base ≤ w.heap.size)
    (h : ∀ A cap w', w'.ownsRow base e size (.slice (some A) (n + m) cap) (n + m) (xs ++ news) → w.grownBy w' (Value.ownBlock (.slice A0 n c0)) → Below base w w' → (some A.block = Value.ownBlock (.slice A0 n c0) ∨ A.block = w.heap.size) → wpList P ops Q rest (a.put o.dst (.slice (some A) (n + m) cap)) w') : wpList P ops Q (o :: rest) a w := by
  have hcells : ∀ j u, news[j]? = some u → w.cell? (B.add j) = some u := by
    intro j u hu
    obtain ⟨b, off, h, _, hc⟩ := hr (by rintro rfl; simp at hu)
    injection h with h
    subst h
    have hadd : (⟨b, off, none⟩ : Addr).add j = ⟨b, off + j, none⟩ := by unfold Addr.add; split <;> simp_all
    rw [hadd]
    exact hc j u hu
  obtain ⟨v', w', hrun, h2, h3, h4, h5⟩ := run_append_own_at (P := P) w base t o.type e i z size bytes ht hi hz hsize hby hzs hsz _ n xs hown B m c news hl hcells h1 h63 hbytes hbase
  have hb : Below base w w' := (Below.refl base w).grown h3 hbase (fun k hk => (hown.lt k hk).1)
  refine wpList_plain hgd fun K hK => ?_
  unfold Oper.wp execOp
  simp only [ho, resolve, invoke, builtin, Sem.run_bind, Sem.run_pure, Result.andThen_ok, List.map_toArray, List.map_cons, List.map_nil, hs, hx, hrun]
  rcases h2.2 with ⟨rfl, h0⟩ | ⟨g, cap, cur, rfl, _⟩
  · omega
  · refine hK _ _ (h _ cap w' h2 h3 hb ?_)
    rcases h5 with h5 | h5
    · exact .inl h5
    · injection h5 with h5
      exact .inr h5
end
theorem ownBlock_cap {A : Option Addr} {n c m d : Nat} : (Value.slice A n c).ownBlock = (Value.slice A m d).ownBlock := by cases A <;> rfl
set_option maxRecDepth 100000 in
set_option maxHeartbeats 1600000 in
theorem insert_end (P : List Pg) (p : Pg) (n : Nat) (hn : P.length = n) (hl : n < 1048576) (A : Option Addr) (cap : Nat) (N : Int) (hN : N = (n : Int)) (B : Addr) (c base : Nat) (w : World) (ho : w.ownsRow base 73 2 (.slice A n cap) n (pCells P)) (hB : SlR w (some B) (pCells [p])) (hb : base ≤ w.heap.size) :
    Calls Tryd.prog 37 #[.slice A n cap, .int .i64 N, .slice (some B) 1 c] w fun e w' => ∃ A' cap', e = .returned (.slice (some A') (n + 1) cap') ∧ w'.ownsRow base 73 2 (.slice (some A') (n + 1) cap') (n + 1) (pCells (P ++ [p])) ∧ w.grownBy w' (Value.ownBlock (.slice A n cap)) ∧ Below base w w' ∧ (some A'.block = Value.ownBlock (.slice A n cap) ∨ A'.block = w.heap.size) := by
  obtain ⟨i0, hi0, hz0, hz1, hz2⟩ := info_parts info_pg
  have HO := Lib.hid ho
  have HB := Lib.hid hB
  have HL := Lib.hid hl
  have HBS := Lib.hid hb
  have i1 : N ≤ (n : Int) := by omega
  have i2 : (0 : Int) ≤ N := by omega
  have i3 : (N == (n : Int)) = true := by simp [hN]
  have i4 : N ≤ (cap : Int) := by have := ownsRow_le ho; omega
  have i5 : (n : Int) ≤ (cap : Int) := by have := ownsRow_le ho; omega
  clear ho hB hl hb hn
  go_enter Tryd.func37, Tryd.ntmps37
  go_wp2_with (first | (at_builtin; refine wpList_app2 _ rfl (.tmp 23) (.tmp 24) 69 rfl base 73 i0 _ 2 16 Tryd.underlying69 hi0 hz0 hz1 hz2 rfl (by omega) A n cap (pCells P) rfl HO.out B 1 c (pCells [p]) rfl (by omega) (by rfl) HB.out (pCells_one _) (by have := HL.out; unfold maxLen; omega) (by have := HL.out; omega) HBS.out ?_; intro A3 k3 w3 hown3 hg3 hb3 hf3; rw [← pCells_app] at hown3))
  all_goals
    go_ret
    exact ⟨_, _, rfl, hown3, by rw [ownBlock_cap (m := n) (d := cap)]; exact hg3, hb3, by cases A <;> exact hf3⟩
end Go.Proofs.YtbadoihpbemjjaaDoor
