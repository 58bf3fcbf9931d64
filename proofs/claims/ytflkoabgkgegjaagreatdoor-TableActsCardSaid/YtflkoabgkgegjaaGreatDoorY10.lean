/- The binary search, find. Condition: the pages are read, rising. And what follows from it. -/
import Derived.Test.YtflkoabgkgegjaaGreatDoorY9
/- The binary search, find. Condition: the pages are read, rising. -/
namespace Go.Proofs.YtflkoabgkgegjaaGreatDoor
open Go.RowKit Go.Maps

/-- the place of an address among rising pages -/
structure PlaceOf (P : List Pg) (at_ : Int) (i : Nat) : Prop where
  le : i ≤ P.length
  lo : ∀ k (h : k < P.length), k < i → ((1024 * P[k].q : Nat) : Int) < at_
  hi : ∀ k (h : k < P.length), i ≤ k → at_ ≤ ((1024 * P[k].q : Nat) : Int)
theorem PlaceOf.one {P : List Pg} {at_ : Int} {i j : Nat} (h : PlaceOf P at_ i) (g : PlaceOf P at_ j) : i = j := by
  rcases Nat.lt_trichotomy i j with q | q | q
  · have h1 := h.hi i (by have := g.le; omega) (Nat.le_refl _)
    have h2 := g.lo i (by have := g.le; omega) q
    omega
  · exact q
  · have h1 := g.hi j (by have := h.le; omega) (Nat.le_refl _)
    have h2 := h.lo j (by have := h.le; omega) q
    omega
def RisesQ (P : List Pg) : Prop := P.Pairwise fun x y => x.q < y.q
theorem RisesQ.at {P : List Pg} (h : RisesQ P) {i j : Nat} (hi : i < P.length) (hj : j < P.length) (hij : i < j) : P[i].q < P[j].q := List.pairwise_iff_getElem.1 h i j hi hj hij
set_option maxRecDepth 100000 in
set_option maxHeartbeats 1600000 in
theorem bsearch_any (P : List Pg) (hP : RisesQ P) (n : Nat) (hn : P.length = n) (hl : n ≤ 1048576) (A : Option Addr) (cap : Nat) (at_ : Int) (i : Nat) (hi : PlaceOf P at_ i) (ok : Bool) (hok : ok = true ↔ ∃ h : i < P.length, ((1024 * P[i].q : Nat) : Int) = at_) (w : World) (hA : SlR w A (pCells P)) :
    Calls Tryz.prog 91 #[.slice A n cap, .int .i64 at_, .func (.func 92) #[] #[]] w fun e w' => e = .returned (.tuple #[.int .i64 (i : Int), .bool ok]) ∧ Below w.heap.size w w' := by
  have HA := Lib.hid hA
  have HP := Lib.hid hP
  have HI := Lib.hid hi
  have HOK := Lib.hid hok
  have HN := Lib.hid hn
  have HL := Lib.hid hl
  clear hA hP hi hok hn hl
  go_enter Tryz.func91, Tryz.ntmps91
  go_wp2
  go_loopw [9, 10] (fun x y wr => ∃ a b : Nat, x = .int .i64 (a : Int) ∧ y = .int .i64 (b : Int) ∧ a ≤ b ∧ b ≤ n ∧ (∀ k (h : k < P.length), k < a → ((1024 * P[k].q : Nat) : Int) < at_) ∧ (∀ k (h : k < P.length), b ≤ k → at_ ≤ ((1024 * P[k].q : Nat) : Int)) ∧ Below w.heap.size w wr) (fun x y _ => (intOf y).toNat - (intOf x).toNat)
  case atStart => exact ⟨0, n, rfl, rfl, Nat.zero_le _, Nat.le_refl _, fun k h h2 => absurd h2 (Nat.not_lt_zero _), fun k h h2 => by have := HN.out; omega, Below.refl _ _⟩
  case round =>
    obtain ⟨a, b, rfl, rfl, hab, hbn, hlo, hhi, hwr⟩ := hrel
    have HLO := Lib.hid hlo
    have HHI := Lib.hid hhi
    have HWR := Lib.hid hwr
    by_cases hlt : a < b
    · have hm : (a + b) / 2 < P.length := by have := HN.out; omega
      obtain ⟨m, hme⟩ : ∃ m, (a + b) / 2 = m := ⟨_, rfl⟩
      rw [hme] at hm
      obtain ⟨g, off, rfl, hg, c0, c1⟩ := (HA.out.below hwr).pg hm
      have q1 : decide ((a : Int) < (b : Int)) = true := decide_eq_true (by omega)
      have q1' : (a : Int) < (b : Int) := by omega
      have ln := HL.out
      have z1 : IntKind.i64.wrap ((a : Int) + (b : Int)) = (a : Int) + (b : Int) := by rw [IntKind.wrap_i64]; omega
      have z2 : IntKind.u64.wrap ((a : Int) + (b : Int)) = (a : Int) + (b : Int) := by rw [IntKind.wrap_u64]; omega
      have z3 : ((a : Int) + (b : Int)) / 2 = (m : Int) := by omega
      have z4 : IntKind.i64.wrap (m : Int) = (m : Int) := by rw [IntKind.wrap_i64]; omega
      have z5 : IntKind.i64.wrap ((m : Int) + 1) = (m : Int) + 1 := by rw [IntKind.wrap_i64]; omega
      have m0 : (0 : Int) ≤ (m : Int) := by omega
      have m1 : (m : Int) < (n : Int) := by omega
      obtain ⟨X, hX⟩ : ∃ X : Int, ((1024 * P[m].q : Nat) : Int) = X := ⟨_, rfl⟩
      obtain ⟨G, hG⟩ : ∃ G : Nat, P[m].gm = G := ⟨_, rfl⟩
      rw [hX] at c1
      rw [hG] at c0
      obtain ⟨C, hC⟩ : ∃ C : Int, cmpI X at_ = C := ⟨_, rfl⟩
      have HC := Lib.hid hC
      have HX : Hid (m < P.length ∧ ∀ h : m < P.length, ((1024 * P[m].q : Nat) : Int) = X) := Lib.hid ⟨hm, fun _ => hX⟩
      have HM : Hid (a ≤ m ∧ m < b ∧ b ≤ n) := Lib.hid (by omega)
      have hXm := hX
      by_cases qx : X < at_
      · have q2 : decide (C < 0) = true := decide_eq_true (by rw [← hC]; unfold cmpI; rw [if_pos qx]; omega)
        have HQ := Lib.hid qx
        clear hlo hhi hwr hX hG hC qx hXm hm hab hbn hlt hme
        go_wp2_with (go_at_call 92; refine (cmpf_any _ rfl X at_ _).mono ?_; rintro e w2 ⟨rfl, h2⟩; rw [HC.out])
        go_roundw
        case rel => exact ⟨m + 1, b, by go_num, rfl, by have := HM.out; omega, by have := HM.out; omega, fun k h hk => by
          have hx := HX.out.2 HX.out.1
          by_cases e : k = m
          · subst e
            rw [hx]
            exact HQ.out
          · have := HP.out.at h HX.out.1 (by omega)
            have := HQ.out
            omega, HHI.out, HWR.out.trans (h2.mono HWR.out.size)⟩
        case measure =>
          have := HM.out
          (try simp [intOf]) <;> omega
      · have q2 : decide (C < 0) = false := decide_eq_false (by rw [← hC]; unfold cmpI; rw [if_neg qx]; split <;> omega)
        have HQ := Lib.hid qx
        clear hlo hhi hwr hX hG hC qx hXm hm hab hbn hlt hme
        go_wp2_with (go_at_call 92; refine (cmpf_any _ rfl X at_ _).mono ?_; rintro e w2 ⟨rfl, h2⟩; rw [HC.out])
        go_roundw
        case rel => exact ⟨a, m, rfl, rfl, HM.out.1, by have := HM.out; omega, HLO.out, fun k h hk => by
          have hx := HX.out.2 HX.out.1
          by_cases e : k = m
          · subst e
            rw [hx]
            have := HQ.out
            omega
          · have := HP.out.at HX.out.1 h (by omega)
            have := HQ.out
            omega, HWR.out.trans (h2.mono HWR.out.size)⟩
        case measure =>
          have := HM.out
          (try simp [intOf]) <;> omega
    · have e : a = b := by omega
      subst e
      have ei : a = i := PlaceOf.one ⟨by have := HN.out; omega, hlo, hhi⟩ HI.out
      subst ei
      have q1 : decide ((a : Int) < (a : Int)) = false := decide_eq_false (by omega)
      by_cases hlt2 : a < P.length
      · obtain ⟨g, off, rfl, hg, c0, c1⟩ := (HA.out.below hwr).pg hlt2
        obtain ⟨X, hX⟩ : ∃ X : Int, ((1024 * P[a].q : Nat) : Int) = X := ⟨_, rfl⟩
        obtain ⟨G, hG⟩ : ∃ G : Nat, P[a].gm = G := ⟨_, rfl⟩
        rw [hX] at c1
        rw [hG] at c0
        obtain ⟨C, hC⟩ : ∃ C : Int, cmpI X at_ = C := ⟨_, rfl⟩
        have HC := Lib.hid hC
        have m0 : (0 : Int) ≤ (a : Int) := by omega
        have m1 : (a : Int) < (n : Int) := by have := HN.out; omega
        have q2 : (C == 0) = ok := by
          have : ok = true ↔ X = at_ := HOK.out.trans ⟨fun ⟨_, h⟩ => hX.symm.trans h, fun h => ⟨hlt2, hX.trans h⟩⟩
          rw [Bool.eq_iff_iff, this, beq_iff_eq, ← hC]
          unfold cmpI
          split
          · omega
          · split <;> omega
        clear hlo hhi hwr hX hG hC hlt2 hab hbn hlt
        go_wp2_with (go_at_call 92; refine (cmpf_any _ rfl X at_ _).mono ?_; rintro e w2 ⟨rfl, h2⟩; rw [HC.out])
        go_ret2
        exact ⟨rfl, HWR.out.trans (h2.mono HWR.out.size)⟩
      · have m1 : ¬ ((a : Int) < (n : Int)) := by have := HN.out; omega
        have q2 : ok = false := by
          rw [Bool.eq_false_iff]
          intro h
          obtain ⟨h2, _⟩ := HOK.out.1 h
          exact hlt2 h2
        clear hlo hhi hwr hlt2 hab hbn hlt HOK
        subst q2
        go_wp2
        go_ret2
        exact ⟨rfl, HWR.out⟩
set_option maxRecDepth 100000 in
theorem find_any (P : List Pg) (hP : RisesQ P) (c b : Nat) (size : Int) (n : Nat) (hn : P.length = n) (hl : n ≤ 1048576) (A : Option Addr) (cap : Nat) (at_ : Int) (i : Nat) (hi : PlaceOf P at_ i) (ok : Bool) (hok : ok = true ↔ ∃ h : i < P.length, ((1024 * P[i].q : Nat) : Int) = at_) (w : World) (hA : SlR w A (pCells P)) (h2 : w.cell? ⟨c, 2, none⟩ = some (.slice A n cap)) :
    Calls Tryz.prog 73 #[.pointer (some ⟨c, 0, none⟩), .int .i64 at_] w fun e w' => e = .returned (.tuple #[.int .i64 (i : Int), .bool ok]) ∧ Below w.heap.size w w' := by
  have HA := Lib.hid hA
  have HP := Lib.hid hP
  have HI := Lib.hid hi
  have HOK := Lib.hid hok
  clear hA hP hi hok
  go_enter Tryz.func73, Tryz.ntmps73
  go_wp2_with (go_at_call 91; refine (bsearch_any P HP.out n hn hl A cap at_ i HI.out ok HOK.out w HA.out).mono ?_; rintro e w2 ⟨rfl, h2⟩)
  go_ret2
  exact ⟨rfl, h2⟩
end Go.Proofs.YtflkoabgkgegjaaGreatDoor
/- Insert of a slab at the end. Condition: the row of slabs is owned. -/
namespace Go.Proofs.YtflkoabgkgegjaaGreatDoor
open Go.RowKit Go.Maps

theorem info_pg : (Tryz.prog.info? 140).map (fun i => (i.zero, i.size, i.bytes)) = some (some (.agg #[.pointer none, .int .i64 0]), 2, 16) := by kernel_rfl
section
variable {P : Program} (w : World)
/-- append of cells that are there, and which block the new slice has -/
theorem wpList_app2 {ops : Array Oper} {rest : List Oper} {o : Oper} {a : Act} {Q : Exit → Act → World → Prop} (hgd : o.guard = none) (s x : Operand) (t : TypeId)
    (ho : o.op = .call { callee := .builtin .append, args := #[s, x], argTypes := #[t, t] })
    (base : Nat) (e : TypeId) (i : TypeInfo) (z : Value) (size bytes : Nat) (ht : P.underlying t = some (.slice e)) (hi : P.info? e = some i) (hz : i.zero = some z)
    (hsize : i.size = size) (hby : i.bytes = bytes) (hzs : z.cells.size = size) (hsz : 0 < size)
    (A0 : Option Addr) (n c0 : Nat) (xs : List Value) (hs : a.eval s = .slice A0 n c0) (hown : w.ownsRow base e size (.slice A0 n c0) n xs)
    (B : Addr) (m c : Nat) (news : List Value) (hx : a.eval x = .slice (some B) m c) (hm : 0 < m) (hl : news.length = m * size) (hr : SlR w (some B) news) (h1 : ∀ u ∈ news, u.oneCell' = true)
    (h63 : n + m ≤ maxLen) (hbytes : (n + m) * bytes ≤ 140737488355328) (hbase : base ≤ w.heap.size)
    (h : ∀ A cap w', w'.ownsRow base e size (.slice (some A) (n + m) cap) (n + m) (xs ++ news) → w.grownBy w' (Value.ownBlock (.slice A0 n c0)) → Below base w w' → (some A.block = Value.ownBlock (.slice A0 n c0) ∨ A.block = w.heap.size) → wpList P ops Q rest (a.put o.dst (.slice (some A) (n + m) cap)) w') : wpList P ops Q (o :: rest) a w := by
  have hcells : ∀ j u, news[j]? = some u → w.cell? (B.add j) = some u := by
    intro j u hu
    obtain ⟨b, off, h, _, hc⟩ := hr (by rintro rfl; simp at hu)
    injection h with h
    subst h
    have hadd : (⟨b, off, none⟩ : Addr).add j = ⟨b, off + j, none⟩ := by unfold Addr.add; split <;> simp_all
    rw [hadd]
    exact hc j u hu
  obtain ⟨v', w', hrun, h2, h3, h4, h5⟩ := run_append_own_at (P := P) w base t o.type e i z size bytes ht hi hz hsize hby hzs hsz _ n xs hown B m c news hl hcells h1 h63 hbytes hbase
  have hb : Below base w w' := (Below.refl base w).grown h3 hbase (fun k hk => (hown.lt k hk).1)
  refine wpList_plain hgd fun K hK => ?_
  unfold Oper.wp execOp
  simp only [ho, resolve, invoke, builtin, Sem.run_bind, Sem.run_pure, Result.andThen_ok, List.map_toArray, List.map_cons, List.map_nil, hs, hx, hrun]
  rcases h2.2 with ⟨rfl, h0⟩ | ⟨g, cap, cur, rfl, _⟩
  · omega
  · refine hK _ _ (h _ cap w' h2 h3 hb ?_)
    rcases h5 with h5 | h5
    · exact .inl h5
    · injection h5 with h5
      exact .inr h5
end
theorem ownBlock_cap {A : Option Addr} {n c m d : Nat} : (Value.slice A n c).ownBlock = (Value.slice A m d).ownBlock := by cases A <;> rfl
set_option maxRecDepth 100000 in
set_option maxHeartbeats 1600000 in
theorem insert_end (P : List Pg) (p : Pg) (n : Nat) (hn : P.length = n) (hl : n < 1048576) (A : Option Addr) (cap : Nat) (N : Int) (hN : N = (n : Int)) (B : Addr) (c base : Nat) (w : World) (ho : w.ownsRow base 140 2 (.slice A n cap) n (pCells P)) (hB : SlR w (some B) (pCells [p])) (hb : base ≤ w.heap.size) :
    Calls Tryz.prog 74 #[.slice A n cap, .int .i64 N, .slice (some B) 1 c] w fun e w' => ∃ A' cap', e = .returned (.slice (some A') (n + 1) cap') ∧ w'.ownsRow base 140 2 (.slice (some A') (n + 1) cap') (n + 1) (pCells (P ++ [p])) ∧ w.grownBy w' (Value.ownBlock (.slice A n cap)) ∧ Below base w w' ∧ (some A'.block = Value.ownBlock (.slice A n cap) ∨ A'.block = w.heap.size) := by
  obtain ⟨i0, hi0, hz0, hz1, hz2⟩ := info_parts info_pg
  have HO := Lib.hid ho
  have HB := Lib.hid hB
  have HL := Lib.hid hl
  have HBS := Lib.hid hb
  have i1 : N ≤ (n : Int) := by omega
  have i2 : (0 : Int) ≤ N := by omega
  have i3 : (N == (n : Int)) = true := by simp [hN]
  have i4 : N ≤ (cap : Int) := by have := ownsRow_le ho; omega
  have i5 : (n : Int) ≤ (cap : Int) := by have := ownsRow_le ho; omega
  clear ho hB hl hb hn
  go_enter Tryz.func74, Tryz.ntmps74
  go_wp2_with (first | (at_builtin; refine wpList_app2 _ rfl (.tmp 23) (.tmp 24) 131 rfl base 140 i0 _ 2 16 Tryz.underlying131 hi0 hz0 hz1 hz2 rfl (by omega) A n cap (pCells P) rfl HO.out B 1 c (pCells [p]) rfl (by omega) (by rfl) HB.out (pCells_one _) (by have := HL.out; unfold maxLen; omega) (by have := HL.out; omega) HBS.out ?_; intro A3 k3 w3 hown3 hg3 hb3 hf3; rw [← pCells_app] at hown3))
  all_goals
    go_ret
    exact ⟨_, _, rfl, hown3, by rw [ownBlock_cap (m := n) (d := cap)]; exact hg3, hb3, by cases A <;> exact hf3⟩
end Go.Proofs.YtflkoabgkgegjaaGreatDoor
/- The state of a cache over an allocator, with blocks that are held. No condition. -/
namespace Go.Proofs.YtflkoabgkgegjaaGreatDoor
open Go.RowKit Go.Maps

theorem BSt.other {V W w w' : World} {b top : Nat} {gm gw : Nat → Nat} {mu n : Nat} {F : Nat → Nat → Bool} {U : Int → Option Nat} {x : Nat} (h : BSt V W [] w b top gm gw mu n F U) (hg : w.grownBy w' (some x)) (hx : W.heap.size ≤ x) (h1 : x ≠ b) (h2 : ∀ k, k ≤ top → x ≠ gm k) (h3 : ∀ k, k ≤ top → x ≠ gw k) (h4 : x ≠ mu) : BSt w' W [] w' b top gm gw mu n F U := by
  have ne : ∀ {g : Nat}, x ≠ g → some g ≠ some x := fun h e => h (by injection e with e; exact e.symm)
  exact ⟨h.way.trans (grownBy_below hg hx h.way.size), Stay.refl _ _ _ _, h.tle, (hg.block b (blt h.row) (ne h1)).trans h.row, fun k hk => by
    obtain ⟨ws, m, hb⟩ := h.maps k hk
    exact ⟨ws, ⟨(hg.block _ m.lt.1 (ne (h2 k hk))).trans m.1, (hg.block _ m.lt.2 (ne (h3 k hk))).trans m.2.1, m.2.2⟩, hb⟩, h.wnew, h.inj, h.used.grown hg (ne h4), h.unew, fun s hs => absurd hs List.not_mem_nil⟩
theorem BSt.rebase {V W w : World} {S : List (Option Addr × List Value)} {b top : Nat} {gm gw : Nat → Nat} {mu n : Nat} {F : Nat → Nat → Bool} {U : Int → Option Nat} (h : BSt V W S w b top gm gw mu n F U) : BSt w W S w b top gm gw mu n F U :=
  ⟨h.way, Stay.refl _ _ _ _, h.tle, h.row, h.maps, h.wnew, h.inj, h.used, h.unew, h.held⟩
section
variable {V W w w' : World} {b top : Nat} {gm gw : Nat → Nat} {mu n : Nat} {l : List Tl}
theorem BG.rebase {S : List (Option Addr × List Value)} (h : BG V W S w b top gm gw mu n l) : BG w W S w b top gm gw mu n l := by
  obtain ⟨F, U, h1, h2⟩ := h.ex
  exact ⟨⟨F, U, h1.rebase, h2⟩, h.good⟩
theorem BG.stay {S : List (Option Addr × List Value)} (h : BG V W S w b top gm gw mu n l) : Stay V w top gw mu := by
  obtain ⟨F, U, h1, h2⟩ := h.ex
  exact h1.stay
/-- a block that is none of the allocator's: by its type -/
structure NotB (w : World) (top : Nat) (gw : Nat → Nat) (x : Nat) : Prop where
  cells : ∃ cs t, w.heap[x]? = some (.cells cs t (0, 0)) ∧ t ≠ 128 ∧ t ≠ 118
  gw : ∀ k, k ≤ top → x ≠ gw k
theorem BG.other {x : Nat} (h : BG V W [] w b top gm gw mu n l) (hg : w.grownBy w' (some x)) (hx : W.heap.size ≤ x) (hn : NotB w top gw x) : BG w' W [] w' b top gm gw mu n l := by
  obtain ⟨F, U, h1, h2⟩ := h.ex
  obtain ⟨cs, t, hc, t1, t2⟩ := hn.cells
  have key : ∀ (g : Nat) (ds : Array Value) (u : TypeId), w.heap[g]? = some (.cells ds u (0, 0)) → t ≠ u → x ≠ g := fun g ds u hd hu e => by
    subst e
    rw [hc] at hd
    injection hd with hd
    injection hd with _ h
    exact hu h
  refine ⟨⟨F, U, h1.other hg hx (key _ _ _ h1.row t1) (fun k hk => ?_) hn.gw (fun e => ?_), h2⟩, h.good⟩
  · obtain ⟨ws, m, _⟩ := h1.maps k hk
    exact key _ _ _ m.1 t2
  · subst e
    obtain ⟨es, cl, ho⟩ := h1.used.obj
    rw [hc] at ho
    injection ho with ho
    cases ho
theorem BG.u64 (h : BG V W [] w b top gm gw mu n l) {k : Nat} (hk : k ≤ top) : ∃ cs, w.heap[gw k]? = some (.cells cs 27 (0, 0)) := by
  obtain ⟨F, U, h1, h2⟩ := h.ex
  obtain ⟨ws, m, _⟩ := h1.maps k hk
  exact ⟨_, m.2.1⟩
theorem BG.mu_obj (h : BG V W [] w b top gm gw mu n l) : ∃ es cl, w.heap[mu]? = some (.map es cl) := by
  obtain ⟨F, U, h1, h2⟩ := h.ex
  exact h1.used.obj
theorem BG.gw_lt (h : BG V W [] w b top gm gw mu n l) {k : Nat} (hk : k ≤ top) : gw k < w.heap.size := by
  obtain ⟨cs, hc⟩ := h.u64 hk
  exact blt hc
/-- a block of cells of another type than words is none that the allocator turns -/
theorem BG.not_gw (h : BG V W [] w b top gm gw mu n l) {x : Nat} {cs : Array Value} {t : TypeId} (hc : w.heap[x]? = some (.cells cs t (0, 0))) (ht : t ≠ 27) : ∀ k, k ≤ top → x ≠ gw k := fun k hk e => by
  obtain ⟨ds, hd⟩ := h.u64 hk
  rw [← e, hc] at hd
  injection hd with hd
  injection hd with _ h2
  exact ht h2
theorem BG.not_mu (h : BG V W [] w b top gm gw mu n l) {x : Nat} {cs : Array Value} {t : TypeId} (hc : w.heap[x]? = some (.cells cs t (0, 0))) : x ≠ mu := fun e => by
  obtain ⟨es, cl, hd⟩ := h.mu_obj
  rw [← e, hc] at hd
  injection hd with hd
  cases hd
theorem two_types {w : World} {x y : Nat} {cs ds : Array Value} {t u : TypeId} (h1 : w.heap[x]? = some (.cells cs t (0, 0))) (h2 : w.heap[y]? = some (.cells ds u (0, 0))) (hne : t ≠ u) : x ≠ y := fun e => by
  subst e
  rw [h1] at h2
  injection h2 with h2
  injection h2 with _ h3
  exact hne h3
end
/-- a cache over an allocator; K: blocks that are held -/
structure SGx (W : World) (K : List (Nat × Obj)) (w : World) (c b size M top : Nat) (gm gw : Nat → Nat) (mu n : Nat) (l : List Tl) (A : Option Addr) (cap : Nat) (P : List Pg) : Prop where
  bg : BG w W [] w b top gm gw mu n l
  row : w.heap[c]? = some (.cells (cRow b (size : Int) A P.length cap) 133 (0, 0))
  own : w.ownsRow W.heap.size 140 2 (.slice A P.length cap) P.length (pCells P)
  maps : ∀ p ∈ P, MapAt w p.gm p.gw M p.ws
  gws : P.Pairwise fun x y => x.gw ≠ y.gw
  rise : RisesQ P
  cnew : W.heap.size ≤ c
  pnew : ∀ p ∈ P, W.heap.size ≤ p.gw
  sep : ∀ p ∈ P, ∀ k, k ≤ top → p.gw ≠ gw k
  kept : ∀ x ∈ K, w.heap[x.1]? = some x.2
  knc : ∀ x ∈ K, x.1 ≠ c ∧ x.1 ≠ mu
  kgw : ∀ x ∈ K, ∀ k, k ≤ top → x.1 ≠ gw k
  kpg : ∀ x ∈ K, ∀ p ∈ P, x.1 ≠ p.gw
  kA : ∀ x ∈ K, some x.1 ≠ (Value.slice A P.length cap).ownBlock
theorem ownsRow_block {w : World} {base : Nat} {e : TypeId} {size n m cap d : Nat} {A : Option Addr} {xs : List Value} (h : w.ownsRow base e size (.slice A m cap) n xs) {g : Nat} (hg : some g = (Value.slice A m d).ownBlock) : ∃ cs, w.heap[g]? = some (.cells cs e (0, 0)) := by
  rcases h.2 with ⟨hv, _⟩ | ⟨g2, cap2, cur, hv, _, hh, _⟩
  · injection hv with h1 _ _
    subst h1
    cases hg
  · injection hv with h1 _ _
    subst h1
    injection hg with hg
    subst hg
    exact ⟨cur, hh⟩
theorem ownsRow_keep {w w' : World} {base : Nat} {e : TypeId} {size : Nat} {A : Option Addr} {m cap n : Nat} {xs : List Value} (h : w.ownsRow base e size (.slice A m cap) n xs) (hk : ∀ g, some g = (Value.slice A m cap).ownBlock → w'.heap[g]? = w.heap[g]?) : w'.ownsRow base e size (.slice A m cap) n xs := by
  refine ⟨h.1, ?_⟩
  rcases h.2 with h0 | ⟨g, cap2, cur, hv, hg, hh, r⟩
  · exact .inl h0
  · refine .inr ⟨g, cap2, cur, hv, hg, (hk g ?_).trans hh, r⟩
    rw [hv]
    rfl
section
variable {W w w' : World} {K : List (Nat × Obj)} {c b size M top : Nat} {gm gw : Nat → Nat} {mu n : Nat} {l : List Tl} {A : Option Addr} {cap : Nat} {P : List Pg}
theorem SGx.rowne (h : SGx W K w c b size M top gm gw mu n l A cap P) {g : Nat} (hg : some g = (Value.slice A P.length cap).ownBlock) : ∃ cs, w.heap[g]? = some (.cells cs 140 (0, 0)) := ownsRow_block h.own hg
/-- all but the words of the allocator's maps and its used map stands -/
theorem SGx.buddy {n' : Nat} {l' : List Tl} (h : SGx W K w c b size M top gm gw mu n l A cap P) (hb : BG w W [] w' b top gm gw mu n' l') : SGx W K w' c b size M top gm gw mu n' l' A cap P := by
  have hs := hb.stay
  have st : ∀ {x : Nat} {cs : Array Value} {t : TypeId}, w.heap[x]? = some (.cells cs t (0, 0)) → t ≠ 27 → w'.heap[x]? = w.heap[x]? := fun hc ht => hs.block _ (blt hc) (h.bg.not_gw hc ht) (h.bg.not_mu hc)
  refine ⟨hb.rebase, (st h.row (by decide)).trans h.row, ownsRow_keep h.own fun g hg => ?_, fun p hp => ?_, h.gws, h.rise, h.cnew, h.pnew, h.sep, fun x hx => ?_, h.knc, h.kgw, h.kpg, h.kA⟩
  · obtain ⟨cs, hc⟩ := h.rowne hg
    exact st hc (by decide)
  · have m := h.maps p hp
    exact ⟨(st m.1 (by decide)).trans m.1, (hs.block _ m.lt.2 (h.sep p hp) (h.bg.not_mu m.2.1)).trans m.2.1, m.2.2⟩
  · have hk := h.kept x hx
    exact (hs.block _ (blt hk) (h.kgw x hx) (h.knc x hx).2).trans hk
theorem SGx.below (h : SGx W K w c b size M top gm gw mu n l A cap P) (hb : Below w.heap.size w w') : SGx W K w' c b size M top gm gw mu n l A cap P := h.buddy (h.bg.below hb)
theorem SGx.alloc (h : SGx W K w c b size M top gm gw mu n l A cap P) (o : Obj) : SGx W K (w.alloc o) c b size M top gm gw mu n l A cap P := h.below ((Below.refl _ w).alloc (Nat.le_refl _) _)
theorem SGx.sl (h : SGx W K w c b size M top gm gw mu n l A cap P) : SlR w A (pCells P) := ownsRow_sl h.own
theorem SGx.c0 (h : SGx W K w c b size M top gm gw mu n l A cap P) : w.cell? ⟨c, 0, none⟩ = some (.pointer (some ⟨b, 0, none⟩)) := (cell_of_row _ _ _ _ _ _ h.row).trans rfl
theorem SGx.c1 (h : SGx W K w c b size M top gm gw mu n l A cap P) : w.cell? ⟨c, 1, none⟩ = some (.int .i64 (size : Int)) := (cell_of_row _ _ _ _ _ _ h.row).trans rfl
theorem SGx.c2 (h : SGx W K w c b size M top gm gw mu n l A cap P) : w.cell? ⟨c, 2, none⟩ = some (.slice A P.length cap) := (cell_of_row _ _ _ _ _ _ h.row).trans rfl
theorem SGx.clt (h : SGx W K w c b size M top gm gw mu n l A cap P) : c < w.heap.size := blt h.row
theorem SGx.row_grown (h : SGx W K w c b size M top gm gw mu n l A cap P) (hg : w.grownBy w' (Value.slice A P.length cap).ownBlock) : w'.heap[c]? = some (.cells (cRow b (size : Int) A P.length cap) 133 (0, 0)) :=
  (hg.block _ h.clt (fun e => by
    obtain ⟨ds, hd⟩ := h.rowne e
    exact two_types h.row hd (by decide) rfl)).trans h.row
theorem pair_mid {α : Type} {R : α → α → Prop} {a : List α} {x y : α} {b : List α} (h : (a ++ x :: b).Pairwise R) (h1 : ∀ z ∈ a, R z x → R z y) (h2 : ∀ z ∈ b, R x z → R y z) : (a ++ y :: b).Pairwise R := by
  rw [List.pairwise_append] at h ⊢
  obtain ⟨ha, hb, hab⟩ := h
  rw [List.pairwise_cons] at hb ⊢
  refine ⟨ha, ⟨fun z hz => h2 z hz (hb.1 z hz), hb.2⟩, fun z hz u hu => ?_⟩
  rcases List.mem_cons.1 hu with rfl | hu
  · exact h1 z hz (hab z hz x List.mem_cons_self)
  · exact hab z hz u (List.mem_cons_of_mem _ hu)
/-- a slab's map turns -/
theorem SGx.set {P1 P2 : List Pg} {p : Pg} {ws : List Nat} (h : SGx W K w c b size M top gm gw mu n l A cap P) (hP : P = P1 ++ p :: P2) (hg : w.grownBy w' (some p.gw)) (hm : MapAt w' p.gm p.gw M ws) : SGx W K w' c b size M top gm gw mu n l A cap (P1 ++ { p with ws := ws } :: P2) := by
  have hp : p ∈ P := by rw [hP]; simp
  have m0 := h.maps p hp
  have hlen : (P1 ++ { p with ws := ws } :: P2).length = P.length := by rw [hP]; simp
  have hpc : pCells (P1 ++ { p with ws := ws } :: P2) = pCells P := by rw [hP]; simp [pCells]
  have mem : ∀ q ∈ P1 ++ { p with ws := ws } :: P2, ∃ q' ∈ P, q.gw = q'.gw ∧ q.gm = q'.gm := fun q hq => by
    rw [hP]
    rcases List.mem_append.1 hq with hq | hq
    · exact ⟨q, by simp [hq], rfl, rfl⟩
    · rcases List.mem_cons.1 hq with rfl | hq
      · exact ⟨p, by simp, rfl, rfl⟩
      · exact ⟨q, by simp [hq], rfl, rfl⟩
  have nb : NotB w top gw p.gw := ⟨⟨_, _, m0.2.1, by decide, by decide⟩, h.sep p hp⟩
  have st : ∀ {x : Nat} {cs : Array Value} {t : TypeId}, w.heap[x]? = some (.cells cs t (0, 0)) → t ≠ 27 → w'.heap[x]? = w.heap[x]? := fun hc ht => hg.block _ (blt hc) (fun e => two_types hc m0.2.1 ht (by injection e))
  have hgw := h.gws
  rw [hP, List.pairwise_append, List.pairwise_cons] at hgw
  have other : ∀ q, q ∈ P1 ∨ q ∈ P2 → MapAt w' q.gm q.gw M q.ws := fun q hq => by
    have hne : q.gw ≠ p.gw := by
      rcases hq with hq | hq
      · exact hgw.2.2 q hq p List.mem_cons_self
      · exact (hgw.2.1.1 q hq).symm
    have m := h.maps q (by rw [hP]; rcases hq with hq | hq <;> simp [hq])
    exact ⟨(st m.1 (by decide)).trans m.1, (hg.block _ m.lt.2 (fun e => hne (by injection e))).trans m.2.1, m.2.2⟩
  refine ⟨h.bg.other hg (h.pnew p hp) nb, ?_, ?_, fun q hq => ?_, ?_, ?_, h.cnew, fun q hq => ?_, fun q hq => ?_, fun x hx => ?_, h.knc, h.kgw, fun x hx q hq => ?_, fun x hx => ?_⟩
  · rw [hlen]; exact (st h.row (by decide)).trans h.row
  · rw [hlen, hpc]
    exact ownsRow_keep h.own fun g hg2 => by
      obtain ⟨cs, hc⟩ := h.rowne hg2
      exact st hc (by decide)
  · rcases List.mem_append.1 hq with hq | hq
    · exact other q (.inl hq)
    · rcases List.mem_cons.1 hq with rfl | hq
      · exact hm
      · exact other q (.inr hq)
  · have := h.gws
    rw [hP] at this
    exact pair_mid this (fun z _ hz => hz) (fun z _ hz => hz)
  · have := h.rise
    rw [hP] at this
    exact pair_mid this (fun z _ hz => hz) (fun z _ hz => hz)
  · obtain ⟨q', hq', e, _⟩ := mem q hq
    rw [e]; exact h.pnew q' hq'
  · obtain ⟨q', hq', e, _⟩ := mem q hq
    rw [e]; exact h.sep q' hq'
  · have hk := h.kept x hx
    exact (hg.block _ (blt hk) (fun e => h.kpg x hx p hp (by injection e))).trans hk
  · obtain ⟨q', hq', e, _⟩ := mem q hq
    rw [e]; exact h.kpg x hx q' hq'
  · rw [hlen]; exact h.kA x hx
/-- the row of slabs is laid anew, the cache's cell turns -/
theorem SGx.lay {P' : List Pg} {A' : Option Addr} {cap' : Nat} (h : SGx W K w c b size M top gm gw mu n l A cap P) (hg : w.grownBy w' (Value.slice A P.length cap).ownBlock) (ho : w'.ownsRow W.heap.size 140 2 (.slice A' P'.length cap') P'.length (pCells P'))
    (hA' : ∀ g, some g = (Value.slice A' P'.length cap').ownBlock → some g = (Value.slice A P.length cap).ownBlock ∨ w.heap.size ≤ g)
    (hm : ∀ p ∈ P', MapAt w p.gm p.gw M p.ws) (hgws : P'.Pairwise fun x y => x.gw ≠ y.gw) (hri : RisesQ P') (hpn : ∀ p ∈ P', W.heap.size ≤ p.gw) (hsep : ∀ p ∈ P', ∀ k, k ≤ top → p.gw ≠ gw k) (hk : ∀ x ∈ K, ∀ p ∈ P', x.1 ≠ p.gw) :
    SGx W K (w'.setCell ⟨c, 2, none⟩ (.slice A' P'.length cap')) c b size M top gm gw mu n l A' cap' P' := by
  have st : ∀ {x : Nat} {cs : Array Value} {t : TypeId}, w.heap[x]? = some (.cells cs t (0, 0)) → t ≠ 140 → w'.heap[x]? = w.heap[x]? := fun {x cs t} hc ht => hg.block _ (blt hc) (fun e => by
    obtain ⟨ds, hd⟩ := h.rowne e
    exact two_types hc hd ht rfl)
  have hrow : w'.heap[c]? = some (.cells (cRow b (size : Int) A P.length cap) 133 (0, 0)) := (st h.row (by decide)).trans h.row
  have hg2 : w'.grownBy (w'.setCell ⟨c, 2, none⟩ (.slice A' P'.length cap')) (some c) := gb_set (World.grownBy.refl _ _) _ _
  have st2 : ∀ {x : Nat} {o : Obj}, w'.heap[x]? = some o → x ≠ c → (w'.setCell ⟨c, 2, none⟩ (.slice A' P'.length cap')).heap[x]? = some o := fun hc hne => (hg2.block _ (blt hc) (fun e => hne (by injection e))).trans hc
  have bg1 : BG w' W [] w' b top gm gw mu n l := by
    cases e : (Value.slice A P.length cap).ownBlock with
    | none =>
      rw [e] at hg
      have hb : Below w.heap.size w w' := (Below.refl _ w).grown hg (Nat.le_refl _) (fun k hk => by cases hk)
      exact (h.bg.below hb).rebase
    | some g =>
      obtain ⟨cs, hc⟩ := h.rowne e.symm
      rw [e] at hg
      refine h.bg.other hg ?_ ⟨⟨cs, _, hc, by decide, by decide⟩, h.bg.not_gw hc (by decide)⟩
      exact (h.own.lt g e).1
  have nbc : NotB w' top gw c := ⟨⟨_, _, hrow, by decide, by decide⟩, bg1.not_gw hrow (by decide)⟩
  refine ⟨bg1.other hg2 h.cnew nbc, ?_, ?_, fun p hp => ?_, hgws, hri, h.cnew, hpn, hsep, fun x hx => ?_, h.knc, h.kgw, hk, fun x hx e => ?_⟩
  · rw [heap_setCell_same w' c 2 _ _ _ hrow]
    rfl
  · exact ownsRow_keep ho fun g hg3 => by
      obtain ⟨cs, hc⟩ := ownsRow_block ho hg3
      exact (st2 hc (two_types hc hrow (by decide))).trans hc.symm
  · have m := hm p hp
    have k1 := (st m.1 (by decide)).trans m.1
    have k2 := (st m.2.1 (by decide)).trans m.2.1
    exact ⟨st2 k1 (two_types k1 hrow (by decide)), st2 k2 (two_types k2 hrow (by decide)), m.2.2⟩
  · have hk := h.kept x hx
    exact st2 ((hg.block _ (blt hk) (h.kA x hx)).trans hk) (h.knc x hx).1
  · rcases hA' _ e with h1 | h1
    · exact h.kA x hx h1
    · have := blt (h.kept x hx)
      omega
end
end Go.Proofs.YtflkoabgkgegjaaGreatDoor
