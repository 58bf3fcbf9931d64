/- Has. Condition: the cache's state. And what follows from it. -/
import Derived.Test.YtflkoabgkgegjaaDoorY18
/- Has. Condition: the cache's state. -/
namespace Go.Proofs.YtflkoabgkgegjaaDoor
open Go.RowKit Go.Maps
variable {W w w' : World} {K : List (Nat × Obj)} {c b size M top : Nat} {gm gw : Nat → Nat} {mu n : Nat} {l : List Tl} {A : Option Addr} {cap : Nat} {P : List Pg}

theorem spot_yes2 (h : SGx W K w c b size M top gm gw mu n l A cap P) (hl : P.length ≤ 1048576) (hs : 0 < size) (hs2 : size ≤ 512) (hM : M = 960 / size) (hq : ∀ x ∈ P, x.q < 1048576) (X : Int) (hX : X ∈ usedC M size P) :
    ∃ k j : Nat, Calls Tryd.prog 72 #[.pointer (some ⟨c, 0, none⟩), .int .i64 X] w fun e w' => e = .returned (.tuple #[.int .i64 (k : Int), .int .i64 (j : Int), .bool true]) ∧ Below w.heap.size w w' := by
  obtain ⟨p, hp, j, hj, hb, hx⟩ := mem_usedC.1 hX
  obtain ⟨P1, P2, hP⟩ := List.append_of_mem hp
  exact ⟨_, j, spot_yes h hl hs hs2 hM P1 P2 p hP (hq p hp) j hj hb X hx _ rfl⟩
set_option maxRecDepth 100000 in
theorem has_yes (h : SGx W K w c b size M top gm gw mu n l A cap P) (hl : P.length ≤ 1048576) (hs : 0 < size) (hs2 : size ≤ 512) (hM : M = 960 / size) (hq : ∀ x ∈ P, x.q < 1048576) (X : Int) (hX : X ∈ usedC M size P) :
    Calls Tryd.prog 56 #[.pointer (some ⟨c, 0, none⟩), .int .i64 X] w fun e w' => e = .returned (.bool true) ∧ Below w.heap.size w w' := by
  obtain ⟨k, j, hc⟩ := spot_yes2 h hl hs hs2 hM hq X hX
  have HC := Lib.hid hc
  clear hc h hX hq hM hs hs2 hl
  go_enter Tryd.func56, Tryd.ntmps56
  go_wp2_with fail
  refine HC.out.mono ?_
  rintro e w2 ⟨rfl, h2⟩
  go_wp2
  go_ret
  exact ⟨rfl, h2⟩
set_option maxRecDepth 100000 in
theorem has_no (h : SGx W K w c b size M top gm gw mu n l A cap P) (hl : P.length ≤ 1048576) (hs : 0 < size) (hs2 : size ≤ 512) (X : Int) (hX : (Lit.int .i64 X).wf = true) (hno : X ∉ usedC M size P) :
    Calls Tryd.prog 56 #[.pointer (some ⟨c, 0, none⟩), .int .i64 X] w fun e w' => e = .returned (.bool false) ∧ Below w.heap.size w w' := by
  have hc := spot_no h hl hs hs2 X hX hno
  have HC := Lib.hid hc
  clear hc h hX hno hs hs2 hl
  go_enter Tryd.func56, Tryd.ntmps56
  go_wp2_with fail
  refine HC.out.mono ?_
  rintro e w2 ⟨rfl, h2⟩
  go_wp2
  go_ret
  exact ⟨rfl, h2⟩
end Go.Proofs.YtflkoabgkgegjaaDoor
/- Delete of a slab. Condition: the row of slabs is owned. -/
namespace Go.Proofs.YtflkoabgkgegjaaDoor
open Go.RowKit Go.Maps

section
variable {P : Program} (w : World)
theorem step_fits {ops : Array Oper} {o : Oper} {a : Act} {K : Act → World → Prop} {Q : Exit → Act → World → Prop} {E : Prop} (hgd : o.guard = none) (s x : Operand) (t : TypeId)
    (ho : o.op = .call { callee := .builtin .append, args := #[s, x], argTypes := #[t, t] })
    (base : Nat) (e : TypeId) (i : TypeInfo) (size : Nat) (ht : P.underlying t = some (.slice e)) (hi : P.info? e = some i) (hsize : i.size = size)
    (g n c0 : Nat) (xs : List Value) (hs : a.eval s = .slice (some ⟨g, 0, none⟩) n c0) (hown : w.ownsRow base e size (.slice (some ⟨g, 0, none⟩) n c0) n xs)
    (B : Addr) (m c : Nat) (news : List Value) (hx : a.eval x = .slice (some B) m c) (hl : news.length = m * size) (hr : ∀ j u, news[j]? = some u → w.cell? (B.add j) = some u) (h1 : ∀ u ∈ news, u.oneCell' = true) (hroom : n + m ≤ c0)
    (h : ∀ w', w'.ownsRow base e size (.slice (some ⟨g, 0, none⟩) (n + m) c0) (n + m) (xs ++ news) → w.grownBy w' (some g) → K (a.put o.dst (.slice (some ⟨g, 0, none⟩) (n + m) c0)) w') :
    if Region.wanted o (yielded ops a.tmps) = true then Oper.wp P o a w K Q else E := by
  have hw : Region.wanted o (yielded ops a.tmps) = true := by simp [Region.wanted, hgd]
  rw [if_pos hw]
  obtain ⟨w', hrun, h2, h3⟩ := run_append_fits (P := P) w base t o.type e i size ht hi hsize g n c0 xs hown B m c news hl hr h1 hroom
  unfold Oper.wp execOp
  simp only [ho, resolve, invoke, builtin, Sem.run_bind, Sem.run_pure, Result.andThen_ok, List.map_toArray, List.map_cons, List.map_nil, hs, hx, hrun]
  exact h w' h2 h3
end
theorem setRow_size (w : World) (g : Nat) (cs : Array Value) : (w.setRow g cs).heap.size = w.heap.size := by simp [World.setRow]
theorem owns_at {w : World} {base : Nat} {e : TypeId} {size g n cap : Nat} {xs : List Value} (h : w.ownsRow base e size (.slice (some ⟨g, 0, none⟩) n cap) n xs) : ∃ cur, w.heap[g]? = some (.cells cur e (0, 0)) ∧ cur.size = cap * size ∧ cur.toList.take (n * size) = xs ∧ base ≤ g := by
  rcases h.2 with ⟨hv, _⟩ | ⟨g2, cap2, cur, hv, hb, hh, _, _, hs, ht⟩
  · cases hv
  · injection hv with e1 _ e3
    injection e1 with e1
    injection e1 with e1
    subst e1 e3
    exact ⟨cur, hh, hs, ht, hb⟩
theorem owns_cap {w : World} {base : Nat} {e : TypeId} {size g n cap : Nat} {xs : List Value} (h : w.ownsRow base e size (.slice (some ⟨g, 0, none⟩) n cap) n xs) : cap ≤ maxLen := by
  rcases h.2 with ⟨hv, _⟩ | ⟨g2, cap2, cur, hv, hb, hh, _, hm, hs, ht⟩
  · cases hv
  · injection hv with e1 _ e3
    subst e3
    exact hm
theorem run_clear_pg (w : World) (ty : TypeId) (g o c : Nat) (cur : Array Value) (hg : w.heap[g]? = some (.cells cur 104 (0, 0))) (ho : o + 2 ≤ cur.size) :
    (Builtin.clear_ #[100] ty #[.slice (some ⟨g, o, none⟩) 1 c]).run Tryd.prog w = .ok (.tuple #[]) (w.setRow g (cur.toList.take o ++ Value.pointer none :: Value.int .i64 0 :: cur.toList.drop (o + 2)).toArray) := by
  have hst := run_storeCells_at Tryd.prog g o 104 [Value.pointer none, Value.int .i64 0] 0 cur w hg (by simpa using ho) (by intro u hu; simp only [List.mem_cons, List.not_mem_nil, or_false] at hu; rcases hu with rfl | rfl <;> rfl)
  simp only [Nat.add_zero, List.length_cons, List.length_nil] at hst
  have hz : (Builtin.zeroCells (Value.cells (.agg #[.pointer none, .int .i64 0])) 1).toList = [Value.pointer none, Value.int .i64 0] := by
    simp [Builtin.zeroCells, Value.cells]
    rfl
  simp [Builtin.clear_, run_underlying Tryd.underlying100, Tryd.zeroValue104, hz, hst]
set_option maxRecDepth 100000 in
set_option maxHeartbeats 1600000 in
theorem delete_any (P : List Pg) (k n : Nat) (hn : P.length = n) (hk : k < n) (hl : n ≤ 1048576) (g cap : Nat) (N1 N2 : Int) (h1 : N1 = (k : Int)) (h2 : N2 = (k : Int) + 1) (base : Nat) (w : World) (ho : w.ownsRow base 104 2 (.slice (some ⟨g, 0, none⟩) n cap) n (pCells P)) :
    Calls Tryd.prog 74 #[.slice (some ⟨g, 0, none⟩) n cap, .int .i64 N1, .int .i64 N2] w fun e w' => e = .returned (.slice (some ⟨g, 0, none⟩) (n - 1) cap) ∧ w'.ownsRow base 104 2 (.slice (some ⟨g, 0, none⟩) (n - 1) cap) (n - 1) (pCells (P.take k ++ P.drop (k + 1))) ∧ w.grownBy w' (some g) := by
  obtain ⟨i0, hi0, hz0, hz1, hz2⟩ := info_parts info_pg
  have HO := Lib.hid ho
  have hnc := ownsRow_le ho
  have HL : Hid (P.length = n ∧ k < n ∧ n ≤ 1048576 ∧ n ≤ cap) := Lib.hid ⟨hn, hk, hl, hnc⟩
  subst h1 h2
  have i1 : (0 : Int) ≤ (k : Int) := by omega
  have i2 : (k : Int) ≤ (k : Int) + 1 := by omega
  have i3 : (k : Int) + 1 ≤ (n : Int) := by omega
  have i4 : (n : Int) ≤ (cap : Int) := by omega
  have i5 : ((k : Int) == (k : Int) + 1) = false := by simp only [beq_eq_false_iff_ne, ne_eq]; omega
  have i6 : (k : Int) ≤ (cap : Int) := by omega
  have i7 : (0 : Int) ≤ (k : Int) + 1 := by omega
  have i8 : ¬ (k : Int) = (k : Int) + 1 := by omega
  clear ho hnc hn hk hl
  go_enter Tryd.func74, Tryd.ntmps74
  go_wp2_with fail
  have HD : Hid (∀ (j : Nat) (u : Value), (pCells (P.drop (k + 1)))[j]? = some u → w.drew.cell? ((⟨g, (k + 1) * 2, none⟩ : Addr).add j) = some u) := Lib.hid (fun j u hu => by
    have e : (⟨g, (k + 1) * 2, none⟩ : Addr).add j = ⟨g, (k + 1) * 2 + j, none⟩ := by unfold Addr.add; split <;> simp_all
    rw [e]
    obtain ⟨g2, off2, hg2, _, hc⟩ := (ownsRow_sl HO.out) (fun h0 => by
      have := pCells_length P
      have := pCells_length (P.drop (k + 1))
      rw [h0] at *
      have h5 := (List.getElem?_eq_some_iff.1 hu).1
      simp only [List.length_nil, List.length_drop] at *
      omega)
    injection hg2 with hg2
    injection hg2 with e1 e2
    subst e1 e2
    have := hc ((k + 1) * 2 + j) u (by
      rw [← hu, show pCells P = pCells (P.take (k + 1)) ++ pCells (P.drop (k + 1)) by rw [← pCells_app, List.take_append_drop], List.getElem?_append_right (by rw [pCells_length, List.length_take]; have := HL.out; omega), pCells_length, List.length_take]
      congr 1
      have := HL.out
      omega)
    rw [Nat.zero_add] at this
    exact this)
  have HT : Hid (w.drew.ownsRow base 104 2 (.slice (some ⟨g, 0, none⟩) k cap) k (pCells (P.take k))) := Lib.hid (by
    have ho := HO.out
    refine ⟨by rw [pCells_length, List.length_take]; have := HL.out; congr 1; omega, ?_⟩
    rcases ho.2 with ⟨hv, _⟩ | ⟨g2, cap2, cur, hv, h1, h2, h3, h4, h5, h6⟩
    · cases hv
    · injection hv with e1 _ e3
      injection e1 with e1
      injection e1 with e1
      subst e1 e3
      refine .inr ⟨g, cap, cur, rfl, h1, h2, by have := HL.out; omega, h4, h5, ?_⟩
      have e : cur.toList.take (k * 2) = (cur.toList.take (n * 2)).take (k * 2) := by
        rw [List.take_take]
        congr 1
        have := HL.out
        omega
      rw [e, h6]
      have e2 : pCells P = pCells (P.take k) ++ pCells (P.drop k) := by rw [← pCells_app, List.take_append_drop]
      rw [e2, List.take_left' (by rw [pCells_length, List.length_take]; have := HL.out; omega)])
  by_cases qc : cap = k + 1
  · have hnk : n = k + 1 := by have := HL.out; omega
    have HD0 : Hid (pCells (P.drop (k + 1)) = []) := Lib.hid (by rw [List.drop_eq_nil_of_le (by have := HL.out; omega)]; rfl)
    subst hnk
    subst qc
    go_region_law (first | ((refine step_fits _ rfl (.tmp 22) (.tmp 25) 100 rfl base 104 i0 2 Tryd.underlying100 hi0 hz1 g k (k + 1) (pCells (P.take k)) (by simp [Act.eval, Act.put]) HT.out ⟨g, 0, none⟩ 0 0 (pCells (P.drop (k + 1))) (by simp [Act.eval, Act.put]) (by rw [HD0.out]; rfl) (by rw [HD0.out]; intro j u hu; simp at hu) (pCells_one _) (by omega) ?_); intro w3 hown3 hgr3))
    all_goals
      have hq0 : k + 0 = k := Nat.add_zero k
      rw [hq0, HD0.out, List.append_nil] at hown3
      obtain ⟨cur3, hc3, hs3, ht3, hb3⟩ := owns_at hown3
      have hcl := fun ty c => run_clear_pg w3 ty g (k * 2) c cur3 hc3 (by omega)
      have j1 : (k : Int) ≤ (k : Int) + 1 := by omega
      have j4 : k + 1 - k = 1 := by omega
      have HW3 : Hid ((w3.setRow g (cur3.toList.take (k * 2) ++ Value.pointer none :: Value.int .i64 0 :: cur3.toList.drop (k * 2 + 2)).toArray).ownsRow base 104 2 (.slice (some ⟨g, 0, none⟩) k (k + 1)) k (pCells (P.take k ++ P.drop (k + 1)))) := Lib.hid (by
        refine ⟨by rw [pCells_length, List.length_append, List.length_take, List.length_drop]; have := HL.out; congr 1; omega, .inr ⟨g, k + 1, _, rfl, hb3, setRow_heap w3 g cur3 _ _ _ hc3, by omega, owns_cap HO.out, ?_, ?_⟩⟩
        · simp only [List.size_toArray, List.length_append, List.length_take, List.length_drop, Array.length_toList, List.length_cons, List.length_nil]
          omega
        · rw [pCells_app, HD0.out, List.append_nil, ← ht3]
          exact List.take_left' (by rw [List.length_take, Array.length_toList]; omega))
      have HG3 : Hid (w.grownBy (w3.setRow g (cur3.toList.take (k * 2) ++ Value.pointer none :: Value.int .i64 0 :: cur3.toList.drop (k * 2 + 2)).toArray) (some g)) := Lib.hid ⟨hgr3.os, hgr3.tape, hgr3.output, by rw [setRow_size]; exact hgr3.size, fun p hp hne => by
        rw [setRow_other _ _ _ _ (fun e => hne (by rw [e]))]
        exact hgr3.block p hp hne⟩
      clear hc3 hs3 ht3 hb3 hown3 hgr3
      go_wp2
      go_ret
      exact ⟨rfl, HW3.out, HG3.out⟩
  · go_region_law (first | ((refine step_fits _ rfl (.tmp 22) (.tmp 25) 100 rfl base 104 i0 2 Tryd.underlying100 hi0 hz1 g k cap (pCells (P.take k)) (by simp [Act.eval, Act.put]) HT.out ⟨g, (k + 1) * 2, none⟩ (n - (k + 1)) (cap - (k + 1)) (pCells (P.drop (k + 1))) (by simp [Act.eval, Act.put]) (by rw [pCells_length, List.length_drop, HL.out.1]) HD.out (pCells_one _) (by have := HL.out; omega) ?_); intro w3 hown3 hgr3))
    all_goals
      obtain ⟨q, hq⟩ : ∃ q, k + (n - (k + 1)) = q := ⟨_, rfl⟩
      have hqn : q + 1 = n := by have := HL.out; omega
      rw [hq] at hown3
      rw [hq]
      obtain ⟨cur3, hc3, hs3, ht3, hb3⟩ := owns_at hown3
      have hcl := fun ty c => run_clear_pg w3 ty g (q * 2) c cur3 hc3 (by have := HL.out; omega)
      have j1 : (0 : Int) ≤ (q : Int) := by omega
      have j2 : (q : Int) ≤ (n : Int) := by omega
      have j3 : (q : Int) ≤ (cap : Int) := by have := HL.out; omega
      have j4 : n - q = 1 := by omega
      have j5 : ¬ cap = q := by have := HL.out; omega
      have HQ : Hid (q + 1 = n) := Lib.hid hqn
      have HW3 : Hid ((w3.setRow g (cur3.toList.take (q * 2) ++ Value.pointer none :: Value.int .i64 0 :: cur3.toList.drop (q * 2 + 2)).toArray).ownsRow base 104 2 (.slice (some ⟨g, 0, none⟩) q cap) q (pCells (P.take k ++ P.drop (k + 1)))) := Lib.hid (by
        refine ⟨by rw [pCells_length, List.length_append, List.length_take, List.length_drop]; have := HL.out; congr 1; omega, .inr ⟨g, cap, _, rfl, hb3, setRow_heap w3 g cur3 _ _ _ hc3, by have := HL.out; omega, owns_cap HO.out, ?_, ?_⟩⟩
        · simp only [List.size_toArray, List.length_append, List.length_take, List.length_drop, Array.length_toList, List.length_cons, List.length_nil]
          have := HL.out
          omega
        · rw [pCells_app, ← ht3]
          exact List.take_left' (by rw [List.length_take, Array.length_toList]; have := HL.out; omega))
      have HG3 : Hid (w.grownBy (w3.setRow g (cur3.toList.take (q * 2) ++ Value.pointer none :: Value.int .i64 0 :: cur3.toList.drop (q * 2 + 2)).toArray) (some g)) := Lib.hid ⟨hgr3.os, hgr3.tape, hgr3.output, by rw [setRow_size]; exact hgr3.size, fun p hp hne => by
        rw [setRow_other _ _ _ _ (fun e => hne (by rw [e]))]
        exact hgr3.block p hp hne⟩
      clear hc3 hs3 ht3 hb3 hown3 hgr3 hq hqn
      go_wp2
      go_ret
      exact ⟨by rw [show n - 1 = q by have := HQ.out; omega]; rfl, by rw [show n - 1 = q by have := HQ.out; omega]; exact HW3.out, HG3.out⟩
end Go.Proofs.YtflkoabgkgegjaaDoor
