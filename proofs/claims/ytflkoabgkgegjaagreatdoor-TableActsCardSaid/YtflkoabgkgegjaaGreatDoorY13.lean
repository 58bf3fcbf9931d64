/- Delete of a slab. Condition: the row of slabs is owned. And what follows from it. -/
import Derived.Test.YtflkoabgkgegjaaGreatDoorY12
/- Delete of a slab. Condition: the row of slabs is owned. -/
namespace Go.Proofs.YtflkoabgkgegjaaGreatDoor
open Go.RowKit Go.Maps

section
variable {P : Program} (w : World)
theorem step_fits {ops : Array Oper} {o : Oper} {a : Act} {K : Act → World → Prop} {Q : Exit → Act → World → Prop} {E : Prop} (hgd : o.guard = none) (s x : Operand) (t : TypeId)
    (ho : o.op = .call { callee := .builtin .append, args := #[s, x], argTypes := #[t, t] })
    (base : Nat) (e : TypeId) (i : TypeInfo) (size : Nat) (ht : P.underlying t = some (.slice e)) (hi : P.info? e = some i) (hsize : i.size = size)
    (g n c0 : Nat) (xs : List Value) (hs : a.eval s = .slice (some ⟨g, 0, none⟩) n c0) (hown : w.ownsRow base e size (.slice (some ⟨g, 0, none⟩) n c0) n xs)
    (B : Addr) (m c : Nat) (news : List Value) (hx : a.eval x = .slice (some B) m c) (hl : news.length = m * size) (hr : ∀ j u, news[j]? = some u → w.cell? (B.add j) = some u) (h1 : ∀ u ∈ news, u.oneCell' = true) (hroom : n + m ≤ c0)
    (h : ∀ w', w'.ownsRow base e size (.slice (some ⟨g, 0, none⟩) (n + m) c0) (n + m) (xs ++ news) → w.grownBy w' (some g) → K (a.put o.dst (.slice (some ⟨g, 0, none⟩) (n + m) c0)) w') :
    if Region.wanted o (yielded ops a.tmps) = true then Oper.wp P o a w K Q else E := by
  have hw : Region.wanted o (yielded ops a.tmps) = true := by simp [Region.wanted, hgd]
  rw [if_pos hw]
  obtain ⟨w', hrun, h2, h3⟩ := run_append_fits (P := P) w base t o.type e i size ht hi hsize g n c0 xs hown B m c news hl hr h1 hroom
  unfold Oper.wp execOp
  simp only [ho, resolve, invoke, builtin, Sem.run_bind, Sem.run_pure, Result.andThen_ok, List.map_toArray, List.map_cons, List.map_nil, hs, hx, hrun]
  exact h w' h2 h3
end
theorem setRow_size (w : World) (g : Nat) (cs : Array Value) : (w.setRow g cs).heap.size = w.heap.size := by simp [World.setRow]
theorem owns_at {w : World} {base : Nat} {e : TypeId} {size g n cap : Nat} {xs : List Value} (h : w.ownsRow base e size (.slice (some ⟨g, 0, none⟩) n cap) n xs) : ∃ cur, w.heap[g]? = some (.cells cur e (0, 0)) ∧ cur.size = cap * size ∧ cur.toList.take (n * size) = xs ∧ base ≤ g := by
  rcases h.2 with ⟨hv, _⟩ | ⟨g2, cap2, cur, hv, hb, hh, _, _, hs, ht⟩
  · cases hv
  · injection hv with e1 _ e3
    injection e1 with e1
    injection e1 with e1
    subst e1 e3
    exact ⟨cur, hh, hs, ht, hb⟩
theorem owns_cap {w : World} {base : Nat} {e : TypeId} {size g n cap : Nat} {xs : List Value} (h : w.ownsRow base e size (.slice (some ⟨g, 0, none⟩) n cap) n xs) : cap ≤ maxLen := by
  rcases h.2 with ⟨hv, _⟩ | ⟨g2, cap2, cur, hv, hb, hh, _, hm, hs, ht⟩
  · cases hv
  · injection hv with e1 _ e3
    subst e3
    exact hm
theorem run_clear_pg (w : World) (ty : TypeId) (g o c : Nat) (cur : Array Value) (hg : w.heap[g]? = some (.cells cur 140 (0, 0))) (ho : o + 2 ≤ cur.size) :
    (Builtin.clear_ #[131] ty #[.slice (some ⟨g, o, none⟩) 1 c]).run Tryz.prog w = .ok (.tuple #[]) (w.setRow g (cur.toList.take o ++ Value.pointer none :: Value.int .i64 0 :: cur.toList.drop (o + 2)).toArray) := by
  have hst := run_storeCells_at Tryz.prog g o 140 [Value.pointer none, Value.int .i64 0] 0 cur w hg (by simpa using ho) (by intro u hu; simp only [List.mem_cons, List.not_mem_nil, or_false] at hu; rcases hu with rfl | rfl <;> rfl)
  simp only [Nat.add_zero, List.length_cons, List.length_nil] at hst
  have hz : (Builtin.zeroCells (Value.cells (.agg #[.pointer none, .int .i64 0])) 1).toList = [Value.pointer none, Value.int .i64 0] := by
    simp [Builtin.zeroCells, Value.cells]
    rfl
  simp [Builtin.clear_, run_underlying Tryz.underlying131, Tryz.zeroValue140, hz, hst]
set_option maxRecDepth 100000 in
set_option maxHeartbeats 1600000 in
theorem delete_any (P : List Pg) (k n : Nat) (hn : P.length = n) (hk : k < n) (hl : n ≤ 1048576) (g cap : Nat) (N1 N2 : Int) (h1 : N1 = (k : Int)) (h2 : N2 = (k : Int) + 1) (base : Nat) (w : World) (ho : w.ownsRow base 140 2 (.slice (some ⟨g, 0, none⟩) n cap) n (pCells P)) :
    Calls Tryz.prog 86 #[.slice (some ⟨g, 0, none⟩) n cap, .int .i64 N1, .int .i64 N2] w fun e w' => e = .returned (.slice (some ⟨g, 0, none⟩) (n - 1) cap) ∧ w'.ownsRow base 140 2 (.slice (some ⟨g, 0, none⟩) (n - 1) cap) (n - 1) (pCells (P.take k ++ P.drop (k + 1))) ∧ w.grownBy w' (some g) := by
  obtain ⟨i0, hi0, hz0, hz1, hz2⟩ := info_parts info_pg
  have HO := Lib.hid ho
  have hnc := ownsRow_le ho
  have HL : Hid (P.length = n ∧ k < n ∧ n ≤ 1048576 ∧ n ≤ cap) := Lib.hid ⟨hn, hk, hl, hnc⟩
  subst h1 h2
  have i1 : (0 : Int) ≤ (k : Int) := by omega
  have i2 : (k : Int) ≤ (k : Int) + 1 := by omega
  have i3 : (k : Int) + 1 ≤ (n : Int) := by omega
  have i4 : (n : Int) ≤ (cap : Int) := by omega
  have i5 : ((k : Int) == (k : Int) + 1) = false := by simp only [beq_eq_false_iff_ne, ne_eq]; omega
  have i6 : (k : Int) ≤ (cap : Int) := by omega
  have i7 : (0 : Int) ≤ (k : Int) + 1 := by omega
  have i8 : ¬ (k : Int) = (k : Int) + 1 := by omega
  clear ho hnc hn hk hl
  go_enter Tryz.func86, Tryz.ntmps86
  go_wp2_with fail
  have HD : Hid (∀ (j : Nat) (u : Value), (pCells (P.drop (k + 1)))[j]? = some u → w.drew.cell? ((⟨g, (k + 1) * 2, none⟩ : Addr).add j) = some u) := Lib.hid (fun j u hu => by
    have e : (⟨g, (k + 1) * 2, none⟩ : Addr).add j = ⟨g, (k + 1) * 2 + j, none⟩ := by unfold Addr.add; split <;> simp_all
    rw [e]
    obtain ⟨g2, off2, hg2, _, hc⟩ := (ownsRow_sl HO.out) (fun h0 => by
      have := pCells_length P
      have := pCells_length (P.drop (k + 1))
      rw [h0] at *
      have h5 := (List.getElem?_eq_some_iff.1 hu).1
      simp only [List.length_nil, List.length_drop] at *
      omega)
    injection hg2 with hg2
    injection hg2 with e1 e2
    subst e1 e2
    have := hc ((k + 1) * 2 + j) u (by
      rw [← hu, show pCells P = pCells (P.take (k + 1)) ++ pCells (P.drop (k + 1)) by rw [← pCells_app, List.take_append_drop], List.getElem?_append_right (by rw [pCells_length, List.length_take]; have := HL.out; omega), pCells_length, List.length_take]
      congr 1
      have := HL.out
      omega)
    rw [Nat.zero_add] at this
    exact this)
  have HT : Hid (w.drew.ownsRow base 140 2 (.slice (some ⟨g, 0, none⟩) k cap) k (pCells (P.take k))) := Lib.hid (by
    have ho := HO.out
    refine ⟨by rw [pCells_length, List.length_take]; have := HL.out; congr 1; omega, ?_⟩
    rcases ho.2 with ⟨hv, _⟩ | ⟨g2, cap2, cur, hv, h1, h2, h3, h4, h5, h6⟩
    · cases hv
    · injection hv with e1 _ e3
      injection e1 with e1
      injection e1 with e1
      subst e1 e3
      refine .inr ⟨g, cap, cur, rfl, h1, h2, by have := HL.out; omega, h4, h5, ?_⟩
      have e : cur.toList.take (k * 2) = (cur.toList.take (n * 2)).take (k * 2) := by
        rw [List.take_take]
        congr 1
        have := HL.out
        omega
      rw [e, h6]
      have e2 : pCells P = pCells (P.take k) ++ pCells (P.drop k) := by rw [← pCells_app, List.take_append_drop]
      rw [e2, List.take_left' (by rw [pCells_length, List.length_take]; have := HL.out; omega)])
  by_cases qc : cap = k + 1
  · have hnk : n = k + 1 := by have := HL.out; omega
    have HD0 : Hid (pCells (P.drop (k + 1)) = []) := Lib.hid (by rw [List.drop_eq_nil_of_le (by have := HL.out; omega)]; rfl)
    subst hnk
    subst qc
    go_region_law (first | ((refine step_fits _ rfl (.tmp 22) (.tmp 25) 131 rfl base 140 i0 2 Tryz.underlying131 hi0 hz1 g k (k + 1) (pCells (P.take k)) (by simp [Act.eval, Act.put]) HT.out ⟨g, 0, none⟩ 0 0 (pCells (P.drop (k + 1))) (by simp [Act.eval, Act.put]) (by rw [HD0.out]; rfl) (by rw [HD0.out]; intro j u hu; simp at hu) (pCells_one _) (by omega) ?_); intro w3 hown3 hgr3))
    all_goals
      have hq0 : k + 0 = k := Nat.add_zero k
      rw [hq0, HD0.out, List.append_nil] at hown3
      obtain ⟨cur3, hc3, hs3, ht3, hb3⟩ := owns_at hown3
      have hcl := fun ty c => run_clear_pg w3 ty g (k * 2) c cur3 hc3 (by omega)
      have j1 : (k : Int) ≤ (k : Int) + 1 := by omega
      have j4 : k + 1 - k = 1 := by omega
      have HW3 : Hid ((w3.setRow g (cur3.toList.take (k * 2) ++ Value.pointer none :: Value.int .i64 0 :: cur3.toList.drop (k * 2 + 2)).toArray).ownsRow base 140 2 (.slice (some ⟨g, 0, none⟩) k (k + 1)) k (pCells (P.take k ++ P.drop (k + 1)))) := Lib.hid (by
        refine ⟨by rw [pCells_length, List.length_append, List.length_take, List.length_drop]; have := HL.out; congr 1; omega, .inr ⟨g, k + 1, _, rfl, hb3, setRow_heap w3 g cur3 _ _ _ hc3, by omega, owns_cap HO.out, ?_, ?_⟩⟩
        · simp only [List.size_toArray, List.length_append, List.length_take, List.length_drop, Array.length_toList, List.length_cons, List.length_nil]
          omega
        · rw [pCells_app, HD0.out, List.append_nil, ← ht3]
          exact List.take_left' (by rw [List.length_take, Array.length_toList]; omega))
      have HG3 : Hid (w.grownBy (w3.setRow g (cur3.toList.take (k * 2) ++ Value.pointer none :: Value.int .i64 0 :: cur3.toList.drop (k * 2 + 2)).toArray) (some g)) := Lib.hid ⟨hgr3.os, hgr3.tape, hgr3.output, by rw [setRow_size]; exact hgr3.size, fun p hp hne => by
        rw [setRow_other _ _ _ _ (fun e => hne (by rw [e]))]
        exact hgr3.block p hp hne⟩
      clear hc3 hs3 ht3 hb3 hown3 hgr3
      go_wp2
      go_ret
      exact ⟨rfl, HW3.out, HG3.out⟩
  · go_region_law (first | ((refine step_fits _ rfl (.tmp 22) (.tmp 25) 131 rfl base 140 i0 2 Tryz.underlying131 hi0 hz1 g k cap (pCells (P.take k)) (by simp [Act.eval, Act.put]) HT.out ⟨g, (k + 1) * 2, none⟩ (n - (k + 1)) (cap - (k + 1)) (pCells (P.drop (k + 1))) (by simp [Act.eval, Act.put]) (by rw [pCells_length, List.length_drop, HL.out.1]) HD.out (pCells_one _) (by have := HL.out; omega) ?_); intro w3 hown3 hgr3))
    all_goals
      obtain ⟨q, hq⟩ : ∃ q, k + (n - (k + 1)) = q := ⟨_, rfl⟩
      have hqn : q + 1 = n := by have := HL.out; omega
      rw [hq] at hown3
      rw [hq]
      obtain ⟨cur3, hc3, hs3, ht3, hb3⟩ := owns_at hown3
      have hcl := fun ty c => run_clear_pg w3 ty g (q * 2) c cur3 hc3 (by have := HL.out; omega)
      have j1 : (0 : Int) ≤ (q : Int) := by omega
      have j2 : (q : Int) ≤ (n : Int) := by omega
      have j3 : (q : Int) ≤ (cap : Int) := by have := HL.out; omega
      have j4 : n - q = 1 := by omega
      have j5 : ¬ cap = q := by have := HL.out; omega
      have HQ : Hid (q + 1 = n) := Lib.hid hqn
      have HW3 : Hid ((w3.setRow g (cur3.toList.take (q * 2) ++ Value.pointer none :: Value.int .i64 0 :: cur3.toList.drop (q * 2 + 2)).toArray).ownsRow base 140 2 (.slice (some ⟨g, 0, none⟩) q cap) q (pCells (P.take k ++ P.drop (k + 1)))) := Lib.hid (by
        refine ⟨by rw [pCells_length, List.length_append, List.length_take, List.length_drop]; have := HL.out; congr 1; omega, .inr ⟨g, cap, _, rfl, hb3, setRow_heap w3 g cur3 _ _ _ hc3, by have := HL.out; omega, owns_cap HO.out, ?_, ?_⟩⟩
        · simp only [List.size_toArray, List.length_append, List.length_take, List.length_drop, Array.length_toList, List.length_cons, List.length_nil]
          have := HL.out
          omega
        · rw [pCells_app, ← ht3]
          exact List.take_left' (by rw [List.length_take, Array.length_toList]; have := HL.out; omega))
      have HG3 : Hid (w.grownBy (w3.setRow g (cur3.toList.take (q * 2) ++ Value.pointer none :: Value.int .i64 0 :: cur3.toList.drop (q * 2 + 2)).toArray) (some g)) := Lib.hid ⟨hgr3.os, hgr3.tape, hgr3.output, by rw [setRow_size]; exact hgr3.size, fun p hp hne => by
        rw [setRow_other _ _ _ _ (fun e => hne (by rw [e]))]
        exact hgr3.block p hp hne⟩
      clear hc3 hs3 ht3 hb3 hown3 hgr3 hq hqn
      go_wp2
      go_ret
      exact ⟨by rw [show n - 1 = q by have := HQ.out; omega]; rfl, by rw [show n - 1 = q by have := HQ.out; omega]; exact HW3.out, HG3.out⟩
end Go.Proofs.YtflkoabgkgegjaaGreatDoor
/- Give of a cache. Condition: the cache's state. -/
namespace Go.Proofs.YtflkoabgkgegjaaGreatDoor
open Go.RowKit Go.Maps
variable {W w w' : World} {K : List (Nat × Obj)} {c b size M top : Nat} {gm gw : Nat → Nat} {mu n : Nat} {l : List Tl} {A : Option Addr} {cap : Nat} {P : List Pg}

set_option maxRecDepth 100000 in
set_option maxHeartbeats 1600000 in
theorem sgive_no (h : SGx W K w c b size M top gm gw mu n l A cap P) (hl : P.length ≤ 1048576) (hs : 0 < size) (hs2 : size ≤ 512) (X : Int) (hX : (Lit.int .i64 X).wf = true) (hno : X ∉ usedC M size P) :
    Calls Tryz.prog 60 #[.pointer (some ⟨c, 0, none⟩), .int .i64 X] w fun e w' => e = .returned (.int .i64 6) ∧ Below w.heap.size w w' := by
  have hc := spot_no h hl hs hs2 X hX hno
  have HC := Lib.hid hc
  clear hc h hX hno hs hs2 hl
  go_enter Tryz.func60, Tryz.ntmps60
  go_wp2_with fail
  refine HC.out.mono ?_
  rintro e w2 ⟨rfl, h2⟩
  go_wp2
  go_ret
  exact ⟨rfl, h2⟩
set_option maxRecDepth 100000 in
set_option maxHeartbeats 3200000 in
theorem sgive_yes (h : SGx W K w c b size M top gm gw mu n l A cap P) (hl : P.length ≤ 1048576) (hs : 0 < size) (hs2 : size ≤ 512) (hM : M = 960 / size) (P1 P2 : List Pg) (p : Pg) (hP : P = P1 ++ p :: P2) (hq : p.q < 1048576) (j : Nat) (hj : j < M) (hb : bitW p.ws j = true) (X : Int) (hX : X = ((1024 * p.q + 64 + j * size : Nat) : Int)) (ws' : List Nat) (hws : ws' = setL false M p.ws [(j : Int)]) (er : Int) (l' : List Tl) (hc : giveC top l ((1024 * p.q : Nat) : Int) = (er, l')) :
    Calls Tryz.prog 60 #[.pointer (some ⟨c, 0, none⟩), .int .i64 X] w fun e w' => e = .returned (.int .i64 0) ∧ ((popL ws' ≠ 0 ∧ SGx W K w' c b size M top gm gw mu n l A cap (P1 ++ { p with ws := ws' } :: P2)) ∨ (popL ws' = 0 ∧ SGx W K w' c b size M top gm gw mu n l' A cap (P1 ++ P2))) := by
  have hsp := spot_yes h hl hs hs2 hM P1 P2 p hP hq j hj hb X hX _ rfl
  have HSP := Lib.hid hsp
  have H := Lib.hid h
  have HP := Lib.hid hP
  have HWS := Lib.hid hws
  have HGC := Lib.hid hc
  obtain ⟨m, hm⟩ : ∃ m, P.length = m := ⟨_, rfl⟩
  obtain ⟨k, hk⟩ : ∃ k, P1.length = k := ⟨_, rfl⟩
  have HM := Lib.hid hm
  have HK := Lib.hid hk
  have hkm : k < m := by rw [← hm, ← hk, hP]; simp
  have HB : Hid (m ≤ 1048576 ∧ k < m ∧ p.q < 1048576) := Lib.hid ⟨by omega, hkm, hq⟩
  obtain ⟨g, off, hA, hg, d0, d1⟩ := h.sl.pg (k := k) (by omega)
  have hPk : P[k]'(by omega) = p := by subst hP; subst hk; simp
  rw [hPk] at d0 d1
  obtain ⟨Y, hY⟩ : ∃ Y : Int, ((1024 * p.q : Nat) : Int) = Y := ⟨_, rfl⟩
  obtain ⟨G, hG⟩ : ∃ G : Nat, p.gm = G := ⟨_, rfl⟩
  rw [hY] at d1
  rw [hG] at d0
  obtain ⟨J, hJ⟩ : ∃ J : Int, (j : Int) = J := ⟨_, rfl⟩
  have HY := Lib.hid hY
  have HJ := Lib.hid hJ
  have HG := Lib.hid hG
  rw [hk, hJ] at HSP
  have c2 := h.c2
  rw [hm] at c2
  subst hA
  have k0 : (0 : Int) ≤ (k : Int) := by omega
  have k1 : (k : Int) < (m : Int) := by omega
  have zk : IntKind.i64.wrap ((k : Int) + 1) = (k : Int) + 1 := by rw [IntKind.wrap_i64]; omega
  have off0 : off = 0 := by
    have ho := h.own.2
    rcases ho with ⟨hv, _⟩ | ⟨_, _, _, hv, _⟩
    · cases hv
    · injection hv with e _ _
      injection e with e
      injection e
  subst off0
  rw [Nat.zero_add] at d0 d1
  clear hsp h hP hws hc hm hk hkm hq hPk hY hG hJ hX hb hj hM hs hs2 hl
  go_enter Tryz.func60, Tryz.ntmps60
  go_wp2_with fail
  refine HSP.out.mono ?_
  rintro e w2 ⟨rfl, b2⟩
  have H2 := Lib.hid (H.out.below b2)
  have e0 := (b2.cell (p := ⟨g, k * 2, none⟩) hg).trans d0
  have e1 := (b2.cell (p := ⟨g, k * 2 + 1, none⟩) hg).trans d1
  have e2 := (b2.cell (p := ⟨c, 2, none⟩) H.out.clt).trans c2
  clear b2 d0 d1 c2
  go_wp2_with fail
  have mk2 := H2.out.maps p (by rw [HP.out]; simp)
  have bx : Below (w2.heap.size + 1) (w2.alloc (.cells #[.pointer (some ⟨G, 0, none⟩), .int .i64 Y] 140)) ((w2.alloc (.cells #[.pointer (some ⟨G, 0, none⟩), .int .i64 Y] 140)).alloc (.cells #[.int .i64 J] 3)) := (Below.refl _ _).alloc (by simp) _
  have b3 : Below w2.heap.size w2 ((w2.alloc (.cells #[.pointer (some ⟨G, 0, none⟩), .int .i64 Y] 140)).alloc (.cells #[.int .i64 J] 3)) := ((Below.refl _ w2).alloc (Nat.le_refl _) _).alloc (by simp) _
  have o3 := (bx.block w2.heap.size (Nat.lt_succ_self _)).trans (heap_alloc_new w2 (.cells #[.pointer (some ⟨G, 0, none⟩), .int .i64 Y] 140))
  have s3 : SlR ((w2.alloc (.cells #[.pointer (some ⟨G, 0, none⟩), .int .i64 Y] 140)).alloc (.cells #[.int .i64 J] 3)) (some ⟨w2.heap.size + 1, 0, none⟩) (i64s [J]) := by
    have := SlR_new (w2.alloc (.cells #[.pointer (some ⟨G, 0, none⟩), .int .i64 Y] 140)) #[.int .i64 J] 3
    rw [World.size_alloc] at this
    exact this
  have h3 := H2.out.below b3
  have mk3 := mk2.below b3
  have lt2 := mk2.lt
  obtain ⟨z, hz⟩ : ∃ z, w2.heap.size = z := ⟨_, rfl⟩
  rw [hz] at o3 s3 lt2 b3
  rw [hz]
  rw [HG.out] at mk3
  generalize hw3 : (w2.alloc (.cells #[.pointer (some ⟨G, 0, none⟩), .int .i64 Y] 140)).alloc (.cells #[.int .i64 J] 3) = w3 at h3 b3 o3 s3 mk3 ⊢
  refine (set_lit false [J] 1 rfl (some ⟨z + 1, 0, none⟩) 1 w3 G p.gw M p.ws ws' _ (by rw [HWS.out, HJ.out]) rfl mk3 s3 (fun _ a ea => by injection ea with ea; subst ea; show z + 1 ≠ p.gw; omega) (by omega)).mono ?_
  rintro e w4 ⟨rfl, m4, g4⟩
  have m4' := m4
  rw [← HG.out] at m4'
  have H4 := Lib.hid (h3.set HP.out g4 m4')
  have hzg : z ≠ p.gw := by omega
  have o4 : Hid (w4.heap[z]? = some (.cells #[.pointer (some ⟨G, 0, none⟩), .int .i64 Y] 140 (0, 0))) := Lib.hid ((g4.block z (blt o3) (fun e => hzg (by injection e))).trans o3)
  have M4 := Lib.hid m4
  have f0 := cell_of_row _ _ 0 _ _ _ o4.out
  have f1 := cell_of_row _ _ 1 _ _ _ o4.out
  clear mk2 bx b3 o3 s3 h3 mk3 lt2 hz hw3 m4 m4' g4 hzg e0 e1 e2
  obtain ⟨C, hC⟩ : ∃ C : Int, ((popL ws' : Nat) : Int) = C := ⟨_, rfl⟩
  have HC := Lib.hid hC
  by_cases q : popL ws' = 0
  · have q0 : (C == 0) = true := by simp only [beq_iff_eq]; omega
    have HQ := Lib.hid q
    clear q hC
    go_wp2_with fail
    refine (count_lit w4 G p.gw M ws' C HC.out M4.out).mono ?_
    rintro e w' ⟨rfl, hw'⟩
    have hw2 := hw'.symm
    clear hw'
    subst hw2
    have c0 := H4.out.c0
    go_wp2_with fail
    have H4D := Lib.hid (H4.out.below (Below.refl _ _).drew)
    have HWF : Hid ((Lit.int .i64 Y).wf = true) := Lib.hid (WalkArith.wf_i64 (by have := HY.out; have := HB.out; omega))
    have HGY : Hid (giveC top l Y = (er, l')) := Lib.hid (by rw [← HY.out]; exact HGC.out)
    go_region_law (first | (go_simp; go_at_call 85; refine (give_l H4D.out.bg Y HWF.out er l' HGY.out).mono ?_; rintro e w5 ⟨rfl, h5⟩))
    all_goals
      have H5 := Lib.hid (H4D.out.buddy h5)
      have hlen : (P1 ++ ({ p with ws := ws' } : Pg) :: P2).length = m := by rw [← HM.out, HP.out]; simp
      have HLEN := Lib.hid hlen
      have c25 := H5.out.c2
      rw [hlen] at c25
      have HO5 := Lib.hid H5.out.own
      rw [hlen] at HO5
      have HR5 : ∀ w6 : World, w5.grownBy w6 (some g) → w6.heap[c]? = some (.cells (cRow b (size : Int) (some ⟨g, 0, none⟩) m cap) 133 (0, 0)) := fun w6 hg6 => by
        have := H5.out.row_grown hg6
        rw [hlen] at this
        exact this
      have HRR := Lib.hid HR5
      clear h5 hlen HR5 f0 f1 c0
      go_wp2_with fail
      refine (delete_any _ k m HLEN.out HB.out.2.1 HB.out.1 g cap (k : Int) ((k : Int) + 1) rfl rfl W.heap.size w5 HO5.out).mono ?_
      rintro e w6 ⟨rfl, ho6, hg6⟩
      have hr6 := HRR.out w6 hg6
      have c26 : w6.cell? ⟨c, 2, none⟩ = some (.slice (some ⟨g, 0, none⟩) m cap) := (cell_of_row _ _ 2 _ _ _ hr6).trans rfl
      have z26 := frozen_of_row _ _ 2 _ _ hr6
      have HPP : Hid ((P1 ++ ({ p with ws := ws' } : Pg) :: P2).take k ++ (P1 ++ ({ p with ws := ws' } : Pg) :: P2).drop (k + 1) = P1 ++ P2) := Lib.hid (by
        have hk := HK.out
        subst hk
        simp)
      have HL2 : Hid ((P1 ++ P2).length = m - 1) := Lib.hid (by have := HLEN.out; rw [List.length_append, List.length_cons] at this; rw [List.length_append]; omega)
      rw [HPP.out] at ho6
      have mem : ∀ x ∈ P1 ++ P2, x ∈ P1 ++ ({ p with ws := ws' } : Pg) :: P2 := fun x hx => by
        rcases List.mem_append.1 hx with hx | hx
        · exact List.mem_append_left _ hx
        · exact List.mem_append_right _ (List.mem_cons_of_mem _ hx)
      have h7 : SGx W K (w6.setCell ⟨c, 2, none⟩ (.slice (some ⟨g, 0, none⟩) (m - 1) cap)) c b size M top gm gw mu n l' (some ⟨g, 0, none⟩) cap (P1 ++ P2) := by
        have key := H5.out.lay (w' := w6) (P' := P1 ++ P2) (A' := some ⟨g, 0, none⟩) (cap' := cap) hg6 (by rw [HL2.out]; exact ho6) (fun g2 hg2 => .inl hg2) (fun x hx => H5.out.maps x (mem x hx)) (H5.out.gws.sublist (List.Sublist.append (List.Sublist.refl _) (List.sublist_cons_self _ _))) (H5.out.rise.sublist (List.Sublist.append (List.Sublist.refl _) (List.sublist_cons_self _ _))) (fun x hx => H5.out.pnew x (mem x hx)) (fun x hx => H5.out.sep x (mem x hx)) (fun x hx y hy => H5.out.kpg x hx y (mem y hy))
        rw [HL2.out] at key
        exact key
      have H7 := Lib.hid h7
      clear h7 mem ho6 hg6 hr6
      go_wp2
      go_ret
      exact ⟨rfl, .inr ⟨HQ.out, H7.out⟩⟩
  · have q0 : (C == 0) = false := by simp only [beq_eq_false_iff_ne, ne_eq]; omega
    have HQ := Lib.hid q
    clear q hC
    go_wp2_with fail
    refine (count_lit w4 G p.gw M ws' C HC.out M4.out).mono ?_
    rintro e w' ⟨rfl, hw'⟩
    have hw2 := hw'.symm
    clear hw'
    subst hw2
    go_wp2
    go_ret
    exact ⟨rfl, .inl ⟨HQ.out, H4.out⟩⟩
end Go.Proofs.YtflkoabgkgegjaaGreatDoor
/- The plain law of taking alone: pages in a row, places in a row. No condition. -/
namespace Go.Proofs.YtflkoabgkgegjaaGreatDoor

/-- m used pages, then free tiles of rising orders -/
def TL (m : Nat) (l : List Tl) : Prop := ∃ F : List Tl, l = List.replicate m (0, false) ++ F ∧ (∀ x ∈ F, x.2 = true) ∧ F.Pairwise fun x y => x.1 < y.1
theorem span_rep : ∀ m, span (List.replicate m ((0, false) : Tl)) = m
  | 0 => rfl
  | m + 1 => by
    rw [List.replicate_succ, span, span_rep m]
    show 2 ^ 0 + m = m + 1
    omega
theorem pieces_rise : ∀ n, (pieces 0 n).Pairwise fun x y => x.1 < y.1
  | 0 => List.Pairwise.nil
  | n + 1 => by
    rw [pieces, List.pairwise_append]
    refine ⟨pieces_rise n, List.pairwise_singleton _ _, fun x hx y hy => ?_⟩
    rw [List.mem_singleton.1 hy]
    have := (pieces_free hx).2.2
    omega
theorem tl_start (top : Nat) : TL 0 [(top, true)] := ⟨[(top, true)], rfl, fun x hx => by rw [List.mem_singleton.1 hx], List.pairwise_singleton _ _⟩
theorem tl_take {top m : Nat} {l : List Tl} (h : TL m l) : (takeC top l 0 = (0, 4, l) ∧ (∀ x ∈ l, x.2 = false)) ∨ ∃ l', takeC top l 0 = (((1024 * m : Nat) : Int), 0, l') ∧ TL (m + 1) l' := by
  obtain ⟨F, rfl, h1, h2⟩ := h
  have free : ∀ x ∈ blks true 0 (List.replicate m (0, false) ++ F), ∃ a b, List.replicate m ((0, false) : Tl) ++ F = a ++ (x.2, true) :: b ∧ x.1 = span a ∧ m ≤ a.length ∧ (x.2, true) ∈ F := fun x hx => by
    obtain ⟨a, b, e, hp⟩ := blks_mem hx
    have hm : m ≤ a.length := by
      rcases Nat.lt_or_ge a.length m with q | q
      · have e1 : (List.replicate m ((0, false) : Tl) ++ F)[a.length]? = some (0, false) := by
          rw [List.getElem?_append_left (by simpa using q), List.getElem?_replicate, if_pos q]
        rw [e, List.getElem?_append_right (Nat.le_refl _), Nat.sub_self] at e1
        simp at e1
      · exact q
    refine ⟨a, b, e, by rw [hp, Nat.zero_add], hm, ?_⟩
    have e1 : (List.replicate m ((0, false) : Tl) ++ F)[a.length]? = some (x.2, true) := by
      rw [e, List.getElem?_append_right (Nat.le_refl _), Nat.sub_self]; rfl
    rw [List.getElem?_append_right (by simpa using hm)] at e1
    exact List.mem_of_getElem? e1
  cases F with
  | nil =>
    left
    refine ⟨TakeR.eq (.inr ⟨0, rfl, Nat.zero_le _, .inl ⟨fun x hx => ?_, rfl, rfl, rfl⟩⟩), fun x hx => ?_⟩
    · obtain ⟨_, _, _, _, _, hf⟩ := free x hx
      cases hf
    · rw [List.append_nil] at hx
      rw [(List.mem_replicate.1 hx).2]
  | cons t F =>
    right
    obtain ⟨k, f⟩ := t
    have hf : f = true := h1 (k, f) List.mem_cons_self
    subst hf
    obtain ⟨h3, h4⟩ := List.pairwise_cons.1 h2
    refine ⟨takeT 0 k (List.replicate m (0, false)) F, TakeR.eq (.inr ⟨0, rfl, Nat.zero_le _, .inr ⟨k, List.replicate m (0, false), F, rfl, Nat.zero_le _, fun x hx _ => ?_, fun x hx _ => ?_, by rw [span_rep], rfl, rfl⟩⟩), pieces 0 k ++ F, ?_, fun x hx => ?_, ?_⟩
    · obtain ⟨_, _, _, _, _, hf⟩ := free x hx
      rcases List.mem_cons.1 hf with e | hf
      · injection e with e; omega
      · have := h3 _ hf
        simp only at this
        omega
    · obtain ⟨a, b, e, hp, hm, _⟩ := free x hx
      rw [hp]
      have e2 : a = List.replicate m ((0, false) : Tl) ++ a.drop m := by
        have e3 : (List.replicate m ((0, false) : Tl) ++ (k, true) :: F).take m = (a ++ (x.2, true) :: b).take m := by rw [e]
        rw [List.take_left' (by simp), List.take_append_of_le_length hm] at e3
        rw [e3, List.take_append_drop]
      rw [e2, span_append]
      omega
    · unfold takeT
      rw [Nat.sub_zero, List.replicate_succ', List.append_assoc]
      rfl
    · rcases List.mem_append.1 hx with hx | hx
      · exact (pieces_free hx).1
      · exact h1 x (List.mem_cons_of_mem _ hx)
    · rw [List.pairwise_append]
      refine ⟨pieces_rise k, h4, fun x hx y hy => ?_⟩
      have e1 := (pieces_free hx).2.2
      have e2 := h3 y hy
      simp only at e2
      omega
theorem blks_free {f : Bool} : ∀ {p : Nat} {F : List Tl}, (∀ x ∈ F, x.2 ≠ f) → blks f p F = []
  | _, [], _ => rfl
  | p, t :: F, h => by
    have h1 := h t List.mem_cons_self
    rw [blks, if_neg h1]
    exact blks_free fun x hx => h x (List.mem_cons_of_mem _ hx)
theorem blks_rep (p : Nat) : ∀ m, blks false p (List.replicate m (0, false)) = (List.range m).map fun i => (p + i, 0)
  | 0 => rfl
  | m + 1 => by
    rw [List.replicate_succ', blks_append, blks_rep p m, List.range_succ, List.map_append, span_rep]
    rfl
theorem tl_used {m : Nat} {l : List Tl} (h : TL m l) : blks false 0 l = (List.range m).map fun i => (i, 0) := by
  obtain ⟨F, rfl, h1, _⟩ := h
  rw [blks_append, blks_rep, blks_free (fun x hx => by rw [h1 x hx]; decide), List.append_nil]
  simp
theorem leftB_app (L M : List (Nat × Nat)) : leftB (L ++ M) = leftB L + leftB M := by simp [leftB]
theorem leftB_both : ∀ (p : Nat) (l : List Tl), leftB (blks true p l) + leftB (blks false p l) = 1024 * span l
  | _, [] => rfl
  | p, t :: l => by
    have := leftB_both (p + 2 ^ t.1) l
    simp only [blks, span]
    by_cases h : t.2 = true
    · rw [if_pos h, if_neg (by rw [h]; decide)]
      simp only [leftB, List.map_cons, List.sum_cons] at this ⊢
      omega
    · rw [if_neg h, if_pos (by simpa using h)]
      simp only [leftB, List.map_cons, List.sum_cons] at this ⊢
      omega
theorem tl_left {m top : Nat} {l : List Tl} (h : TL m l) (hg : Good top l) : leftB (blks true 0 l) + 1024 * m = 1024 * 2 ^ top := by
  have h1 := leftB_both 0 l
  rw [hg.all, tl_used h] at h1
  have h2 : leftB ((List.range m).map fun i => (i, 0)) = 1024 * m := by
    clear h1 h
    induction m with
    | zero => rfl
    | succ m ih =>
      rw [List.range_succ, List.map_append, leftB_app, ih]
      simp [leftB]
      omega
  omega
theorem tl_full {m top : Nat} {l : List Tl} (h : TL m l) (hg : Good top l) (hf : ∀ x ∈ l, x.2 = false) : m = 2 ^ top := by
  obtain ⟨F, rfl, h1, _⟩ := h
  have hF : F = [] := by
    cases F with
    | nil => rfl
    | cons x F =>
      have e1 := h1 x List.mem_cons_self
      have e2 := hf x (by simp)
      rw [e1] at e2
      cases e2
  subst hF
  have := hg.all
  rw [List.append_nil, span_rep] at this
  exact this
end Go.Proofs.YtflkoabgkgegjaaGreatDoor
