/- cmp.Compare at ints, the comparison of a page with an address, the binary search. Condition: the pages are read, rising. And what follows from it. -/
import Derived.Test.YtflkoabgkgegjaaDoorY13
/- cmp.Compare at ints, the comparison of a page with an address, the binary search. Condition: the pages are read, rising. -/
namespace Go.Proofs.YtflkoabgkgegjaaDoor
open Go.RowKit Go.Maps

/-- a slab: its page's number, its map's blocks, its map's words -/
structure Pg where
  q : Nat
  gm : Nat
  gw : Nat
  ws : List Nat
def pCells (P : List Pg) : List Value := P.flatMap fun p => [.pointer (some ⟨p.gm, 0, none⟩), .int .i64 ((1024 * p.q : Nat) : Int)]
theorem pCells_length : ∀ P : List Pg, (pCells P).length = P.length * 2
  | [] => rfl
  | x :: P => by
    have := pCells_length P
    simp only [pCells, List.flatMap_cons, List.length_append, List.length_cons, List.length_nil] at this ⊢
    omega
theorem pCells_app (P Q : List Pg) : pCells (P ++ Q) = pCells P ++ pCells Q := by simp [pCells]
theorem pCells_one (P : List Pg) : ∀ u ∈ pCells P, u.oneCell' = true := by
  intro u hu
  simp only [pCells, List.mem_flatMap] at hu
  obtain ⟨p, _, hu⟩ := hu
  simp only [List.mem_cons, List.not_mem_nil, or_false] at hu
  rcases hu with rfl | rfl <;> rfl
theorem pCells_at : ∀ (P : List Pg) (k : Nat) (x : Pg), P[k]? = some x → (pCells P)[k * 2]? = some (.pointer (some ⟨x.gm, 0, none⟩)) ∧ (pCells P)[k * 2 + 1]? = some (.int .i64 ((1024 * x.q : Nat) : Int))
  | [], k, x, h => by simp at h
  | y :: P, 0, x, h => by
    simp only [List.getElem?_cons_zero, Option.some.injEq] at h
    subst h
    exact ⟨rfl, rfl⟩
  | y :: P, k + 1, x, h => by
    have := pCells_at P k x (by simpa using h)
    simp only [pCells, List.flatMap_cons] at this ⊢
    rw [show (k + 1) * 2 = k * 2 + 2 by omega, show k * 2 + 2 + 1 = k * 2 + 1 + 2 by omega]
    exact this
theorem SlR.pg {w : World} {A : Option Addr} {P : List Pg} (h : SlR w A (pCells P)) {k : Nat} (hk : k < P.length) : ∃ b off, A = some ⟨b, off, none⟩ ∧ b < w.heap.size ∧ w.cell? ⟨b, off + k * 2, none⟩ = some (.pointer (some ⟨P[k].gm, 0, none⟩)) ∧ w.cell? ⟨b, off + k * 2 + 1, none⟩ = some (.int .i64 ((1024 * P[k].q : Nat) : Int)) := by
  obtain ⟨b, off, e, hlt, hc⟩ := h (fun e => by have := pCells_length P; rw [e] at this; simp at this; omega)
  have h2 := pCells_at P k P[k] (List.getElem?_eq_getElem hk)
  exact ⟨b, off, e, hlt, hc _ _ h2.1, by rw [Nat.add_assoc]; exact hc _ _ h2.2⟩
def cmpI (x y : Int) : Int := if x < y then -1 else if y < x then 1 else 0
set_option maxRecDepth 100000 in
theorem isnan_any (x : Int) (w : World) : Calls Tryd.prog 76 #[.int .i64 x] w fun e w' => e = .returned (.bool false) ∧ w' = w := by
  have h : (x != x) = false := by simp
  go_enter Tryd.func76, Tryd.ntmps76
  go_wp2
  go_ret
  exact ⟨by first | rfl | simp, rfl⟩
set_option maxRecDepth 100000 in
theorem compare_i (x y : Int) (w : World) : Calls Tryd.prog 69 #[.int .i64 x, .int .i64 y] w fun e w' => e = .returned (.int .i64 (cmpI x y)) ∧ w' = w := by
  obtain ⟨c, hc⟩ : ∃ c, cmpI x y = c := ⟨_, rfl⟩
  rw [hc]
  unfold cmpI at hc
  have HC := Lib.hid hc
  clear hc
  go_enter Tryd.func69, Tryd.ntmps69
  go_wp2_with (go_at_call 76; refine (isnan_any _ _).mono ?_; rintro e w' ⟨rfl, rfl⟩)
  all_goals
    have hc := HC.out
    go_ret
    refine ⟨?_, rfl⟩
    subst hc
    first | (congr 2; split <;> first | rfl | omega | (split <;> first | rfl | omega)) | trace_state
set_option maxRecDepth 100000 in
theorem cmpf_any (p0 : Value) (hp0 : p0.oneCell' = true) (x y : Int) (w : World) : Calls Tryd.prog 68 #[.agg #[p0, .int .i64 x], .int .i64 y] w fun e w' => e = .returned (.int .i64 (cmpI x y)) ∧ Below w.heap.size w w' := by
  have HB : Hid (Below w.heap.size w (w.alloc (.cells #[p0, .int .i64 x] 104))) := Lib.hid ((Below.refl _ w).alloc (Nat.le_refl _) _)
  have h3 : (w.alloc (.cells #[p0, .int .i64 x] 104)).cell? ⟨w.heap.size, 1, none⟩ = some (.int .i64 x) := cell_of_row _ _ _ _ _ _ (heap_alloc_new w _)
  go_enter Tryd.func68, Tryd.ntmps68
  go_wp2_with (go_at_call 69; refine (compare_i _ _ _).mono ?_; rintro e w' ⟨rfl, rfl⟩)
  go_ret
  exact ⟨rfl, HB.out⟩
end Go.Proofs.YtflkoabgkgegjaaDoor
/- The binary search, find. Condition: the pages are read, rising. -/
namespace Go.Proofs.YtflkoabgkgegjaaDoor
open Go.RowKit Go.Maps

/-- the place of an address among rising pages -/
structure PlaceOf (P : List Pg) (at_ : Int) (i : Nat) : Prop where
  le : i ≤ P.length
  lo : ∀ k (h : k < P.length), k < i → ((1024 * P[k].q : Nat) : Int) < at_
  hi : ∀ k (h : k < P.length), i ≤ k → at_ ≤ ((1024 * P[k].q : Nat) : Int)
theorem PlaceOf.one {P : List Pg} {at_ : Int} {i j : Nat} (h : PlaceOf P at_ i) (g : PlaceOf P at_ j) : i = j := by
  rcases Nat.lt_trichotomy i j with q | q | q
  · have h1 := h.hi i (by have := g.le; omega) (Nat.le_refl _)
    have h2 := g.lo i (by have := g.le; omega) q
    omega
  · exact q
  · have h1 := g.hi j (by have := h.le; omega) (Nat.le_refl _)
    have h2 := h.lo j (by have := h.le; omega) q
    omega
def RisesQ (P : List Pg) : Prop := P.Pairwise fun x y => x.q < y.q
theorem RisesQ.at {P : List Pg} (h : RisesQ P) {i j : Nat} (hi : i < P.length) (hj : j < P.length) (hij : i < j) : P[i].q < P[j].q := List.pairwise_iff_getElem.1 h i j hi hj hij
set_option maxRecDepth 100000 in
set_option maxHeartbeats 1600000 in
theorem bsearch_any (P : List Pg) (hP : RisesQ P) (n : Nat) (hn : P.length = n) (hl : n ≤ 1048576) (A : Option Addr) (cap : Nat) (at_ : Int) (i : Nat) (hi : PlaceOf P at_ i) (ok : Bool) (hok : ok = true ↔ ∃ h : i < P.length, ((1024 * P[i].q : Nat) : Int) = at_) (w : World) (hA : SlR w A (pCells P)) :
    Calls Tryd.prog 67 #[.slice A n cap, .int .i64 at_, .func (.func 68) #[] #[]] w fun e w' => e = .returned (.tuple #[.int .i64 (i : Int), .bool ok]) ∧ Below w.heap.size w w' := by
  have HA := Lib.hid hA
  have HP := Lib.hid hP
  have HI := Lib.hid hi
  have HOK := Lib.hid hok
  have HN := Lib.hid hn
  have HL := Lib.hid hl
  clear hA hP hi hok hn hl
  go_enter Tryd.func67, Tryd.ntmps67
  go_wp2
  go_loopw [9, 10] (fun x y wr => ∃ a b : Nat, x = .int .i64 (a : Int) ∧ y = .int .i64 (b : Int) ∧ a ≤ b ∧ b ≤ n ∧ (∀ k (h : k < P.length), k < a → ((1024 * P[k].q : Nat) : Int) < at_) ∧ (∀ k (h : k < P.length), b ≤ k → at_ ≤ ((1024 * P[k].q : Nat) : Int)) ∧ Below w.heap.size w wr) (fun x y _ => (intOf y).toNat - (intOf x).toNat)
  case atStart => exact ⟨0, n, rfl, rfl, Nat.zero_le _, Nat.le_refl _, fun k h h2 => absurd h2 (Nat.not_lt_zero _), fun k h h2 => by have := HN.out; omega, Below.refl _ _⟩
  case round =>
    obtain ⟨a, b, rfl, rfl, hab, hbn, hlo, hhi, hwr⟩ := hrel
    have HLO := Lib.hid hlo
    have HHI := Lib.hid hhi
    have HWR := Lib.hid hwr
    by_cases hlt : a < b
    · have hm : (a + b) / 2 < P.length := by have := HN.out; omega
      obtain ⟨m, hme⟩ : ∃ m, (a + b) / 2 = m := ⟨_, rfl⟩
      rw [hme] at hm
      obtain ⟨g, off, rfl, hg, c0, c1⟩ := (HA.out.below hwr).pg hm
      have q1 : decide ((a : Int) < (b : Int)) = true := decide_eq_true (by omega)
      have q1' : (a : Int) < (b : Int) := by omega
      have ln := HL.out
      have z1 : IntKind.i64.wrap ((a : Int) + (b : Int)) = (a : Int) + (b : Int) := by rw [IntKind.wrap_i64]; omega
      have z2 : IntKind.u64.wrap ((a : Int) + (b : Int)) = (a : Int) + (b : Int) := by rw [IntKind.wrap_u64]; omega
      have z3 : ((a : Int) + (b : Int)) / 2 = (m : Int) := by omega
      have z4 : IntKind.i64.wrap (m : Int) = (m : Int) := by rw [IntKind.wrap_i64]; omega
      have z5 : IntKind.i64.wrap ((m : Int) + 1) = (m : Int) + 1 := by rw [IntKind.wrap_i64]; omega
      have m0 : (0 : Int) ≤ (m : Int) := by omega
      have m1 : (m : Int) < (n : Int) := by omega
      obtain ⟨X, hX⟩ : ∃ X : Int, ((1024 * P[m].q : Nat) : Int) = X := ⟨_, rfl⟩
      obtain ⟨G, hG⟩ : ∃ G : Nat, P[m].gm = G := ⟨_, rfl⟩
      rw [hX] at c1
      rw [hG] at c0
      obtain ⟨C, hC⟩ : ∃ C : Int, cmpI X at_ = C := ⟨_, rfl⟩
      have HC := Lib.hid hC
      have HX : Hid (m < P.length ∧ ∀ h : m < P.length, ((1024 * P[m].q : Nat) : Int) = X) := Lib.hid ⟨hm, fun _ => hX⟩
      have HM : Hid (a ≤ m ∧ m < b ∧ b ≤ n) := Lib.hid (by omega)
      have hXm := hX
      by_cases qx : X < at_
      · have q2 : decide (C < 0) = true := decide_eq_true (by rw [← hC]; unfold cmpI; rw [if_pos qx]; omega)
        have HQ := Lib.hid qx
        clear hlo hhi hwr hX hG hC qx hXm hm hab hbn hlt hme
        go_wp2_with (go_at_call 68; refine (cmpf_any _ rfl X at_ _).mono ?_; rintro e w2 ⟨rfl, h2⟩; rw [HC.out])
        go_roundw
        case rel => exact ⟨m + 1, b, by go_num, rfl, by have := HM.out; omega, by have := HM.out; omega, fun k h hk => by
          have hx := HX.out.2 HX.out.1
          by_cases e : k = m
          · subst e
            rw [hx]
            exact HQ.out
          · have := HP.out.at h HX.out.1 (by omega)
            have := HQ.out
            omega, HHI.out, HWR.out.trans (h2.mono HWR.out.size)⟩
        case measure =>
          have := HM.out
          (try simp [intOf]) <;> omega
      · have q2 : decide (C < 0) = false := decide_eq_false (by rw [← hC]; unfold cmpI; rw [if_neg qx]; split <;> omega)
        have HQ := Lib.hid qx
        clear hlo hhi hwr hX hG hC qx hXm hm hab hbn hlt hme
        go_wp2_with (go_at_call 68; refine (cmpf_any _ rfl X at_ _).mono ?_; rintro e w2 ⟨rfl, h2⟩; rw [HC.out])
        go_roundw
        case rel => exact ⟨a, m, rfl, rfl, HM.out.1, by have := HM.out; omega, HLO.out, fun k h hk => by
          have hx := HX.out.2 HX.out.1
          by_cases e : k = m
          · subst e
            rw [hx]
            have := HQ.out
            omega
          · have := HP.out.at HX.out.1 h (by omega)
            have := HQ.out
            omega, HWR.out.trans (h2.mono HWR.out.size)⟩
        case measure =>
          have := HM.out
          (try simp [intOf]) <;> omega
    · have e : a = b := by omega
      subst e
      have ei : a = i := PlaceOf.one ⟨by have := HN.out; omega, hlo, hhi⟩ HI.out
      subst ei
      have q1 : decide ((a : Int) < (a : Int)) = false := decide_eq_false (by omega)
      by_cases hlt2 : a < P.length
      · obtain ⟨g, off, rfl, hg, c0, c1⟩ := (HA.out.below hwr).pg hlt2
        obtain ⟨X, hX⟩ : ∃ X : Int, ((1024 * P[a].q : Nat) : Int) = X := ⟨_, rfl⟩
        obtain ⟨G, hG⟩ : ∃ G : Nat, P[a].gm = G := ⟨_, rfl⟩
        rw [hX] at c1
        rw [hG] at c0
        obtain ⟨C, hC⟩ : ∃ C : Int, cmpI X at_ = C := ⟨_, rfl⟩
        have HC := Lib.hid hC
        have m0 : (0 : Int) ≤ (a : Int) := by omega
        have m1 : (a : Int) < (n : Int) := by have := HN.out; omega
        have q2 : (C == 0) = ok := by
          have : ok = true ↔ X = at_ := HOK.out.trans ⟨fun ⟨_, h⟩ => hX.symm.trans h, fun h => ⟨hlt2, hX.trans h⟩⟩
          rw [Bool.eq_iff_iff, this, beq_iff_eq, ← hC]
          unfold cmpI
          split
          · omega
          · split <;> omega
        clear hlo hhi hwr hX hG hC hlt2 hab hbn hlt
        go_wp2_with (go_at_call 68; refine (cmpf_any _ rfl X at_ _).mono ?_; rintro e w2 ⟨rfl, h2⟩; rw [HC.out])
        go_ret2
        exact ⟨rfl, HWR.out.trans (h2.mono HWR.out.size)⟩
      · have m1 : ¬ ((a : Int) < (n : Int)) := by have := HN.out; omega
        have q2 : ok = false := by
          rw [Bool.eq_false_iff]
          intro h
          obtain ⟨h2, _⟩ := HOK.out.1 h
          exact hlt2 h2
        clear hlo hhi hwr hlt2 hab hbn hlt HOK
        subst q2
        go_wp2
        go_ret2
        exact ⟨rfl, HWR.out⟩
set_option maxRecDepth 100000 in
theorem find_any (P : List Pg) (hP : RisesQ P) (c b : Nat) (size : Int) (n : Nat) (hn : P.length = n) (hl : n ≤ 1048576) (A : Option Addr) (cap : Nat) (at_ : Int) (i : Nat) (hi : PlaceOf P at_ i) (ok : Bool) (hok : ok = true ↔ ∃ h : i < P.length, ((1024 * P[i].q : Nat) : Int) = at_) (w : World) (hA : SlR w A (pCells P)) (h2 : w.cell? ⟨c, 2, none⟩ = some (.slice A n cap)) :
    Calls Tryd.prog 53 #[.pointer (some ⟨c, 0, none⟩), .int .i64 at_] w fun e w' => e = .returned (.tuple #[.int .i64 (i : Int), .bool ok]) ∧ Below w.heap.size w w' := by
  have HA := Lib.hid hA
  have HP := Lib.hid hP
  have HI := Lib.hid hi
  have HOK := Lib.hid hok
  clear hA hP hi hok
  go_enter Tryd.func53, Tryd.ntmps53
  go_wp2_with (go_at_call 67; refine (bsearch_any P HP.out n hn hl A cap at_ i HI.out ok HOK.out w HA.out).mono ?_; rintro e w2 ⟨rfl, h2⟩)
  go_ret2
  exact ⟨rfl, h2⟩
end Go.Proofs.YtflkoabgkgegjaaDoor
/- Insert of a slab at the end. Condition: the row of slabs is owned. -/
namespace Go.Proofs.YtflkoabgkgegjaaDoor
open Go.RowKit Go.Maps

theorem info_pg : (Tryd.prog.info? 104).map (fun i => (i.zero, i.size, i.bytes)) = some (some (.agg #[.pointer none, .int .i64 0]), 2, 16) := by kernel_rfl
section
variable {P : Program} (w : World)
/-- append of cells that are there, and which block the new slice has -/
theorem wpList_app2 {ops : Array Oper} {rest : List Oper} {o : Oper} {a : Act} {Q : Exit → Act → World → Prop} (hgd : o.guard = none) (s x : Operand) (t : TypeId)
    (ho : o.op = .call { callee := .builtin .append, args := #[s, x], argTypes := #[t, t] })
    (base : Nat) (e : TypeId) (i : TypeInfo) (z : Value) (size bytes : Nat) (ht : P.underlying t = some (.slice e)) (hi : P.info? e = some i) (hz : i.zero = some z)
    (hsize : i.size = size) (hby : i.bytes = bytes) (hzs : z.cells.size = size) (hsz : 0 < size)
    (A0 : Option Addr) (n c0 : Nat) (xs : List Value) (hs : a.eval s = .slice A0 n c0) (hown : w.ownsRow base e size (.slice A0 n c0) n xs)
    (B : Addr) (m c : Nat) (news : List Value) (hx : a.eval x = .slice (some B) m c) (hm : 0 < m) (hl : news.length = m * size) (hr : SlR w (some B) news) (h1 : ∀ u ∈ news, u.oneCell' = true)
    (h63 : n + m ≤ maxLen) (hbytes : (n + m) * bytes ≤ 140737488355328) (hbase : base ≤ w.heap.size)
    (h : ∀ A cap w', w'.ownsRow base e size (.slice (some A) (n + m) cap) (n + m) (xs ++ news) → w.grownBy w' (Value.ownBlock (.slice A0 n c0)) → Below base w w' → (some A.block = Value.ownBlock (.slice A0 n c0) ∨ A.block = w.heap.size) → wpList P ops Q rest (a.put o.dst (.slice (some A) (n + m) cap)) w') : wpList P ops Q (o :: rest) a w := by
  have hcells : ∀ j u, news[j]? = some u → w.cell? (B.add j) = some u := by
    intro j u hu
    obtain ⟨b, off, h, _, hc⟩ := hr (by rintro rfl; simp at hu)
    injection h with h
    subst h
    have hadd : (⟨b, off, none⟩ : Addr).add j = ⟨b, off + j, none⟩ := by unfold Addr.add; split <;> simp_all
    rw [hadd]
    exact hc j u hu
  obtain ⟨v', w', hrun, h2, h3, h4, h5⟩ := run_append_own_at (P := P) w base t o.type e i z size bytes ht hi hz hsize hby hzs hsz _ n xs hown B m c news hl hcells h1 h63 hbytes hbase
  have hb : Below base w w' := (Below.refl base w).grown h3 hbase (fun k hk => (hown.lt k hk).1)
  refine wpList_plain hgd fun K hK => ?_
  unfold Oper.wp execOp
  simp only [ho, resolve, invoke, builtin, Sem.run_bind, Sem.run_pure, Result.andThen_ok, List.map_toArray, List.map_cons, List.map_nil, hs, hx, hrun]
  rcases h2.2 with ⟨rfl, h0⟩ | ⟨g, cap, cur, rfl, _⟩
  · omega
  · refine hK _ _ (h _ cap w' h2 h3 hb ?_)
    rcases h5 with h5 | h5
    · exact .inl h5
    · injection h5 with h5
      exact .inr h5
end
theorem ownBlock_cap {A : Option Addr} {n c m d : Nat} : (Value.slice A n c).ownBlock = (Value.slice A m d).ownBlock := by cases A <;> rfl
set_option maxRecDepth 100000 in
set_option maxHeartbeats 1600000 in
theorem insert_end (P : List Pg) (p : Pg) (n : Nat) (hn : P.length = n) (hl : n < 1048576) (A : Option Addr) (cap : Nat) (N : Int) (hN : N = (n : Int)) (B : Addr) (c base : Nat) (w : World) (ho : w.ownsRow base 104 2 (.slice A n cap) n (pCells P)) (hB : SlR w (some B) (pCells [p])) (hb : base ≤ w.heap.size) :
    Calls Tryd.prog 54 #[.slice A n cap, .int .i64 N, .slice (some B) 1 c] w fun e w' => ∃ A' cap', e = .returned (.slice (some A') (n + 1) cap') ∧ w'.ownsRow base 104 2 (.slice (some A') (n + 1) cap') (n + 1) (pCells (P ++ [p])) ∧ w.grownBy w' (Value.ownBlock (.slice A n cap)) ∧ Below base w w' ∧ (some A'.block = Value.ownBlock (.slice A n cap) ∨ A'.block = w.heap.size) := by
  obtain ⟨i0, hi0, hz0, hz1, hz2⟩ := info_parts info_pg
  have HO := Lib.hid ho
  have HB := Lib.hid hB
  have HL := Lib.hid hl
  have HBS := Lib.hid hb
  have i1 : N ≤ (n : Int) := by omega
  have i2 : (0 : Int) ≤ N := by omega
  have i3 : (N == (n : Int)) = true := by simp [hN]
  have i4 : N ≤ (cap : Int) := by have := ownsRow_le ho; omega
  have i5 : (n : Int) ≤ (cap : Int) := by have := ownsRow_le ho; omega
  clear ho hB hl hb hn
  go_enter Tryd.func54, Tryd.ntmps54
  go_wp2_with (first | (at_builtin; refine wpList_app2 _ rfl (.tmp 23) (.tmp 24) 100 rfl base 104 i0 _ 2 16 Tryd.underlying100 hi0 hz0 hz1 hz2 rfl (by omega) A n cap (pCells P) rfl HO.out B 1 c (pCells [p]) rfl (by omega) (by rfl) HB.out (pCells_one _) (by have := HL.out; unfold maxLen; omega) (by have := HL.out; omega) HBS.out ?_; intro A3 k3 w3 hown3 hg3 hb3 hf3; rw [← pCells_app] at hown3))
  all_goals
    go_ret
    exact ⟨_, _, rfl, hown3, by rw [ownBlock_cap (m := n) (d := cap)]; exact hg3, hb3, by cases A <;> exact hf3⟩
end Go.Proofs.YtflkoabgkgegjaaDoor
