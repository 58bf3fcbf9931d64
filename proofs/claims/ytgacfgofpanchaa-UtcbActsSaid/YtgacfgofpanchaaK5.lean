/- append onto a row of the call's own; copy into a row: laws in the forms that a walk meets. No condition. -/
import Derived.Test.YtgacfgofpanchaaK4
import Derived.Maps.AppendAt
import Derived.Deep.AppendLies
import Derived.Laws.CopyRow
namespace Go.Proofs.Ytgacfgofpanchaa
open Go.RowKit

theorem ownsRow_sl {w : World} {base : Nat} {e : TypeId} {A : Option Addr} {n cap : Nat} {size : Nat} {xs : List Value} (h : w.ownsRow base e size (.slice A n cap) n xs) : SlR w A xs := fun hne => by
  rcases h.2 with ⟨hv, h0⟩ | ⟨g, cap', cur, hv, hg, hh, hn, hc, hs, ht⟩
  · exfalso
    apply hne
    have := h.1
    rw [h0, Nat.zero_mul] at this
    exact List.eq_nil_of_length_eq_zero this
  · injection hv with hA
    refine ⟨g, 0, hA, ?_, fun j u hu => ?_⟩
    · rcases Nat.lt_or_ge g w.heap.size with hlt | hge
      · exact hlt
      · rw [Array.getElem?_eq_none hge] at hh; cases hh
    · rw [cell_of_row w g (0 + j) cur e (0, 0) hh]
      rw [← ht] at hu
      have hlt : j < n * size := by
        rcases Nat.lt_or_ge j (n * size) with h1 | h1
        · exact h1
        · rw [List.getElem?_eq_none (by rw [List.length_take]; omega)] at hu; cases hu
      rw [List.getElem?_take_of_lt hlt] at hu
      simpa using hu

theorem ownsRow_le {w : World} {base : Nat} {e : TypeId} {A : Option Addr} {n cap : Nat} {size : Nat} {xs : List Value} (h : w.ownsRow base e size (.slice A n cap) n xs) : n ≤ cap := by
  rcases h.2 with ⟨hv, h0⟩ | ⟨g, cap', cur, hv, hg, hh, hn, _⟩
  · omega
  · injection hv with _ _ hc
    omega

section
variable {P : Program} (w : World)

theorem run_append_of_nil (base : Nat) (t ty e : TypeId) (i : TypeInfo) (size : Nat) (ht : P.underlying t = some (.slice e)) (hi : P.info? e = some i)
    (v : Value) (n : Nat) (xs : List Value) (hown : w.ownsRow base e size v n xs) (c : Nat) : (Builtin.append_ #[t, t] ty #[v, .slice none 0 c]).run P w = .ok v w := by
  rcases hown.2 with ⟨rfl, rfl⟩ | ⟨g, cap, cur, rfl, _, _, hnc, _⟩
  · simp [Builtin.append_, run_underlying ht, sizeOf, typeInfo, hi, Builtin.lenOf, Builtin.firstCells]
  · simp [Builtin.append_, run_underlying ht, sizeOf, typeInfo, hi, Builtin.lenOf, Builtin.firstCells, hnc, storeCells]

theorem run_app (base : Nat) (t ty e : TypeId) (i : TypeInfo) (z : Value) (size bytes : Nat) (ht : P.underlying t = some (.slice e)) (hi : P.info? e = some i) (hz : i.zero = some z)
    (hsize : i.size = size) (hby : i.bytes = bytes) (hzs : z.cells.size = size) (hsz : 0 < size)
    (A0 : Option Addr) (n c0 : Nat) (xs : List Value) (hown : w.ownsRow base e size (.slice A0 n c0) n xs)
    (B : Option Addr) (m c : Nat) (news : List Value) (hl : news.length = m * size) (hr : SlR w B news) (h1 : ∀ u ∈ news, u.oneCell' = true)
    (h63 : n + m ≤ maxLen) (hbytes : (n + m) * bytes ≤ 140737488355328) (hbase : base ≤ w.heap.size) :
    ∃ A cap w', (Builtin.append_ #[t, t] ty #[.slice A0 n c0, .slice B m c]).run P w = .ok (.slice A (n + m) cap) w' ∧ w'.ownsRow base e size (.slice A (n + m) cap) (n + m) (xs ++ news) ∧
      w.grownBy w' (Value.ownBlock (.slice A0 n c0)) ∧ Below base w w' := by
  have key : ∃ v' w', (Builtin.append_ #[t, t] ty #[.slice A0 n c0, .slice B m c]).run P w = .ok v' w' ∧ w'.ownsRow base e size v' (n + m) (xs ++ news) ∧ w.grownBy w' (Value.ownBlock (.slice A0 n c0)) := by
    rcases B with _ | a
    · have hn : news = [] := by
        by_cases h : news = []
        · exact h
        · obtain ⟨b, off, h, _⟩ := hr h
          cases h
      subst hn
      have hm : m = 0 := by
        have : m * size = 0 := by rw [← hl]; rfl
        rcases Nat.mul_eq_zero.1 this with h | h
        · exact h
        · omega
      subst hm
      exact ⟨_, w, run_append_of_nil w base t ty e i size ht hi _ n xs hown c, by simpa using hown, World.grownBy.refl w _⟩
    · have hcells : ∀ j u, news[j]? = some u → w.cell? (a.add j) = some u := by
        intro j u hu
        obtain ⟨b, off, h, _, hc⟩ := hr (by rintro rfl; simp at hu)
        injection h with h
        subst h
        have hadd : (⟨b, off, none⟩ : Addr).add j = ⟨b, off + j, none⟩ := by unfold Addr.add; split <;> simp_all
        rw [hadd]
        exact hc j u hu
      obtain ⟨v', w', hrun, h2, h3, _, _⟩ := run_append_own_at (P := P) w base t ty e i z size bytes ht hi hz hsize hby hzs hsz _ n xs hown a m c news hl hcells h1 h63 hbytes hbase
      exact ⟨v', w', hrun, h2, h3⟩
  obtain ⟨v', w', hrun, h2, h3⟩ := key
  have hb : Below base w w' := (Below.refl base w).grown h3 hbase (fun k hk => (hown.lt k hk).1)
  rcases h2.2 with ⟨rfl, h0⟩ | ⟨g, cap, cur, rfl, _⟩
  · exact ⟨none, 0, w', by rw [h0]; exact hrun, by rw [h0] at h2 ⊢; exact h2, h3, hb⟩
  · exact ⟨some ⟨g, 0, none⟩, cap, w', hrun, h2, h3, hb⟩

theorem wp_app {o : Oper} {a : Act} {K : Act → World → Prop} {Q : Exit → Act → World → Prop} (s x : Operand) (t : TypeId)
    (ho : o.op = .call { callee := .builtin .append, args := #[s, x], argTypes := #[t, t] })
    (base : Nat) (e : TypeId) (i : TypeInfo) (z : Value) (size bytes : Nat) (ht : P.underlying t = some (.slice e)) (hi : P.info? e = some i) (hz : i.zero = some z)
    (hsize : i.size = size) (hby : i.bytes = bytes) (hzs : z.cells.size = size) (hsz : 0 < size)
    (A0 : Option Addr) (n c0 : Nat) (xs : List Value) (hs : a.eval s = .slice A0 n c0) (hown : w.ownsRow base e size (.slice A0 n c0) n xs)
    (B : Option Addr) (m c : Nat) (news : List Value) (hx : a.eval x = .slice B m c) (hl : news.length = m * size) (hr : SlR w B news) (h1 : ∀ u ∈ news, u.oneCell' = true)
    (h63 : n + m ≤ maxLen) (hbytes : (n + m) * bytes ≤ 140737488355328) (hbase : base ≤ w.heap.size)
    (h : ∀ A cap w', w'.ownsRow base e size (.slice A (n + m) cap) (n + m) (xs ++ news) → w.grownBy w' (Value.ownBlock (.slice A0 n c0)) → Below base w w' → K (a.put o.dst (.slice A (n + m) cap)) w') : o.wp P a w K Q := by
  obtain ⟨A, cap, w', hrun, h2, h3, h4⟩ := run_app (P := P) w base t o.type e i z size bytes ht hi hz hsize hby hzs hsz A0 n c0 xs hown B m c news hl hr h1 h63 hbytes hbase
  unfold Oper.wp execOp
  simp only [ho, resolve, invoke, builtin, Sem.run_bind, Sem.run_pure, Result.andThen_ok, List.map_toArray, List.map_cons, List.map_nil, hs, hx, hrun]
  exact h A cap w' h2 h3 h4

theorem wpList_app {ops : Array Oper} {rest : List Oper} {o : Oper} {a : Act} {Q : Exit → Act → World → Prop} (hgd : o.guard = none) (s x : Operand) (t : TypeId)
    (ho : o.op = .call { callee := .builtin .append, args := #[s, x], argTypes := #[t, t] })
    (base : Nat) (e : TypeId) (i : TypeInfo) (z : Value) (size bytes : Nat) (ht : P.underlying t = some (.slice e)) (hi : P.info? e = some i) (hz : i.zero = some z)
    (hsize : i.size = size) (hby : i.bytes = bytes) (hzs : z.cells.size = size) (hsz : 0 < size)
    (A0 : Option Addr) (n c0 : Nat) (xs : List Value) (hs : a.eval s = .slice A0 n c0) (hown : w.ownsRow base e size (.slice A0 n c0) n xs)
    (B : Option Addr) (m c : Nat) (news : List Value) (hx : a.eval x = .slice B m c) (hl : news.length = m * size) (hr : SlR w B news) (h1 : ∀ u ∈ news, u.oneCell' = true)
    (h63 : n + m ≤ maxLen) (hbytes : (n + m) * bytes ≤ 140737488355328) (hbase : base ≤ w.heap.size)
    (h : ∀ A cap w', w'.ownsRow base e size (.slice A (n + m) cap) (n + m) (xs ++ news) → w.grownBy w' (Value.ownBlock (.slice A0 n c0)) → Below base w w' → wpList P ops Q rest (a.put o.dst (.slice A (n + m) cap)) w') : wpList P ops Q (o :: rest) a w :=
  wpList_plain hgd fun _ hK => wp_app w s x t ho base e i z size bytes ht hi hz hsize hby hzs hsz A0 n c0 xs hs hown B m c news hx hl hr h1 h63 hbytes hbase fun A cap w' h2 h3 h4 => hK _ _ (h A cap w' h2 h3 h4)

theorem step_app {ops : Array Oper} {o : Oper} {a : Act} {K : Act → World → Prop} {Q : Exit → Act → World → Prop} {E : Prop} (hgd : o.guard = none) (s x : Operand) (t : TypeId)
    (ho : o.op = .call { callee := .builtin .append, args := #[s, x], argTypes := #[t, t] })
    (base : Nat) (e : TypeId) (i : TypeInfo) (z : Value) (size bytes : Nat) (ht : P.underlying t = some (.slice e)) (hi : P.info? e = some i) (hz : i.zero = some z)
    (hsize : i.size = size) (hby : i.bytes = bytes) (hzs : z.cells.size = size) (hsz : 0 < size)
    (A0 : Option Addr) (n c0 : Nat) (xs : List Value) (hs : a.eval s = .slice A0 n c0) (hown : w.ownsRow base e size (.slice A0 n c0) n xs)
    (B : Option Addr) (m c : Nat) (news : List Value) (hx : a.eval x = .slice B m c) (hl : news.length = m * size) (hr : SlR w B news) (h1 : ∀ u ∈ news, u.oneCell' = true)
    (h63 : n + m ≤ maxLen) (hbytes : (n + m) * bytes ≤ 140737488355328) (hbase : base ≤ w.heap.size)
    (h : ∀ A cap w', w'.ownsRow base e size (.slice A (n + m) cap) (n + m) (xs ++ news) → w.grownBy w' (Value.ownBlock (.slice A0 n c0)) → Below base w w' → K (a.put o.dst (.slice A (n + m) cap)) w') :
    if Region.wanted o (yielded ops a.tmps) = true then Oper.wp P o a w K Q else E := by
  have hw : Region.wanted o (yielded ops a.tmps) = true := by simp [Region.wanted, hgd]
  rw [if_pos hw]
  exact wp_app w s x t ho base e i z size bytes ht hi hz hsize hby hzs hsz A0 n c0 xs hs hown B m c news hx hl hr h1 h63 hbytes hbase h
end

theorem ownsRow_below {w w' : World} {base : Nat} {e : TypeId} {size : Nat} {v : Value} {n : Nat} {xs : List Value} (h : w.ownsRow base e size v n xs) (hb : Below w.heap.size w w') : w'.ownsRow base e size v n xs := by
  refine ⟨h.1, ?_⟩
  rcases h.2 with h0 | ⟨g, cap, cur, hv, hg, hh, r⟩
  · exact .inl h0
  · have hlt : g < w.heap.size := by
      rcases Nat.lt_or_ge g w.heap.size with hlt | hge
      · exact hlt
      · rw [Array.getElem?_eq_none hge] at hh; cases hh
    exact .inr ⟨g, cap, cur, hv, hg, (hb.block g hlt).trans hh, r⟩
theorem info_parts {t : TypeId} {z : Value} {s b : Nat} (h : (Try.prog.info? t).map (fun i => (i.zero, i.size, i.bytes)) = some (some z, s, b)) : ∃ i, Try.prog.info? t = some i ∧ i.zero = some z ∧ i.size = s ∧ i.bytes = b := by
  cases hi : Try.prog.info? t with
  | none => rw [hi] at h; cases h
  | some i =>
    rw [hi] at h
    simp only [Option.map_some, Option.some.injEq, Prod.mk.injEq] at h
    exact ⟨i, rfl, h.1, h.2.1, h.2.2⟩
theorem info_u8 : (Try.prog.info? 5).map (fun i => (i.zero, i.size, i.bytes)) = some (some (.int .u8 0), 1, 1) := by kernel_rfl
theorem u8s_one (l : List Nat) : ∀ u ∈ u8s l, u.oneCell' = true := by
  intro u hu
  simp only [u8s, List.mem_map] at hu
  obtain ⟨x, _, rfl⟩ := hu
  rfl

/-- the bytes once the bytes l lie at a place -/
def writeF (f : Nat → Nat) (at_ : Nat) (l : List Nat) (j : Nat) : Nat := if at_ ≤ j ∧ j < at_ + l.length then l.getD (j - at_) 0 else f j
theorem writeF_nil (f : Nat → Nat) (at_ : Nat) : writeF f at_ [] = f := by
  funext j
  unfold writeF
  rw [if_neg (by rw [List.length_nil]; omega)]
theorem gb_row {a : World} (g : Nat) (cs : Array Value) : a.grownBy (a.setRow g cs) (some g) :=
  ⟨rfl, rfl, rfl, by simp, fun k _ hk => setRow_other a g k _ (fun e => hk (by simp [e]))⟩
theorem ArAt.row {W : World} {ga gb N : Nat} {f : Nat → Nat} (h : ArAt W ga gb N f) (at_ : Nat) (l : List Nat) (ha : at_ + l.length ≤ N) (hl : ∀ x ∈ l, x < 256) :
    ∃ cur, W.heap[gb]? = some (.cells cur 5 (0, 0)) ∧ cur.size = N ∧ ArAt (W.setRow gb (cur.toList.take at_ ++ u8s l ++ cur.toList.drop (at_ + (u8s l).length)).toArray) ga gb N (writeF f at_ l) := by
  obtain ⟨cs, hc, hs⟩ := h.2.1
  have hrow := setRow_heap W gb cs (cs.toList.take at_ ++ u8s l ++ cs.toList.drop (at_ + (u8s l).length)).toArray _ _ hc
  refine ⟨cs, hc, hs, (setRow_other W gb ga _ h.2.2.2.2.1).trans h.1, ⟨_, hrow, ?_⟩, fun j hj => ?_, fun j => ?_, h.2.2.2.2⟩
  · simp [u8s_length]; omega
  · have h1 := h.2.2.1 j hj
    rw [cell_of_row W gb j _ _ _ hc] at h1
    rw [cell_of_row _ gb j _ _ _ hrow]
    unfold writeF
    have hlen : (cs.toList.take at_).length = at_ := by rw [List.length_take]; simp; omega
    rw [List.getElem?_toArray]
    by_cases e1 : j < at_
    · rw [if_neg (by omega), List.append_assoc, List.getElem?_append_left (by omega), List.getElem?_take_of_lt e1]
      simpa using h1
    · by_cases e2 : j < at_ + l.length
      · rw [if_pos (by omega), List.append_assoc, List.getElem?_append_right (by omega), hlen, List.getElem?_append_left (by rw [u8s_length]; omega)]
        have e3 : j - at_ < l.length := by omega
        simp [u8s, e3, List.getD]
      · rw [if_neg (by omega), List.getElem?_append_right (by rw [List.length_append, hlen, u8s_length]; omega), List.length_append, hlen, u8s_length, List.getElem?_drop, show at_ + l.length + (j - (at_ + l.length)) = j by omega]
        simpa using h1
  · unfold writeF
    split
    · rename_i e
      have e3 : j - at_ < l.length := by omega
      have : l.getD (j - at_) 0 = l[j - at_] := by simp [List.getD, e3]
      rw [this]
      exact hl _ (List.getElem_mem e3)
    · exact h.2.2.2.1 j

theorem run_copy_any {W : World} {ga gb N : Nat} {f : Nat → Nat} (h : ArAt W ga gb N f) (ty : TypeId) (at_ : Nat) (l : List Nat) (cap c : Nat) (B : Option Addr) (hB : SlR W B (u8s l)) (ha : at_ + l.length ≤ N) (hl : ∀ x ∈ l, x < 256) :
    ∃ w', (Builtin.copy_ #[70, 70] ty #[.slice (some (partA gb N at_)) l.length cap, .slice B l.length c]).run Try.prog W = .ok (goInt l.length) w' ∧ ArAt w' ga gb N (writeF f at_ l) ∧ W.grownBy w' (some gb) := by
  obtain ⟨i, hi, _, hs, _⟩ := info_parts info_u8
  have hs' : (Try.prog.info? 5).map (·.size) = some 1 := by rw [hi]; simp [hs]
  by_cases hnil : l = []
  · subst hnil
    refine ⟨W, ?_, by rw [writeF_nil]; exact h, World.grownBy.refl _ _⟩
    rcases B with _ | a
    · simp [Builtin.copy_, run_underlying Try.underlying70, Builtin.lenOf, Builtin.firstCells, sizeOf, typeInfo, hi, storeCells]
    · have hl0 := run_loadCells_list (P := Try.prog) W a [] (by simp)
      rw [List.length_nil] at hl0
      simp [Builtin.copy_, run_underlying Try.underlying70, Builtin.lenOf, Builtin.firstCells, sizeOf, typeInfo, hi, storeCells, hl0]
  · have hne : u8s l ≠ [] := by
      intro e
      apply hnil
      have := u8s_length l
      rw [e] at this
      exact List.eq_nil_of_length_eq_zero this.symm
    have hpos : 0 < l.length := List.length_pos_iff.2 hnil
    obtain ⟨b, off, rfl, _, hc⟩ := hB hne
    obtain ⟨cur, hg, hsz, hr⟩ := h.row at_ l ha hl
    rw [partA_in (by omega)]
    refine ⟨_, ?_, hr, gb_row _ _⟩
    have := run_copy_row Try.prog W 70 70 ty 5 gb at_ l.length cap ⟨b, off, none⟩ l.length c cur _ (u8s l) Try.underlying70 hs' hg (by rw [u8s_length]; simp) (fun j v hv => by
      have hadd : (⟨b, off, none⟩ : Addr).add j = ⟨b, off + j, none⟩ := by unfold Addr.add; split <;> simp_all
      rw [hadd]
      exact hc j v hv) (by rw [u8s_length]; omega) (u8s_one l)
    rw [this, u8s_length]

theorem wpList_copy {P : Program} (w : World) {ops : Array Oper} {rest : List Oper} {o : Oper} {a : Act} {Q : Exit → Act → World → Prop} (hgd : o.guard = none) (d x : Operand) (t : TypeId)
    (ho : o.op = .call { callee := .builtin .copy, args := #[d, x], argTypes := #[t, t] })
    (vd vx r : Value) (hd : a.eval d = vd) (hx : a.eval x = vx) (R : World → Prop) (hrun : ∃ w', (Builtin.copy_ #[t, t] o.type #[vd, vx]).run P w = .ok r w' ∧ R w')
    (h : ∀ w', R w' → wpList P ops Q rest (a.put o.dst r) w') : wpList P ops Q (o :: rest) a w :=
  wpList_plain hgd fun _ hK => by
    obtain ⟨w', hr, hR⟩ := hrun
    unfold Oper.wp execOp
    simp only [ho, resolve, invoke, builtin, Sem.run_bind, Sem.run_pure, Result.andThen_ok, List.map_toArray, List.map_cons, List.map_nil, hd, hx, hr]
    exact hK _ _ (h w' hR)
end Go.Proofs.Ytgacfgofpanchaa
