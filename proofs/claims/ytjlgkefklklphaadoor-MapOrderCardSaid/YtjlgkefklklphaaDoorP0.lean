/- append onto a row of the call's own, the source nil, empty or not: laws in the forms that a walk meets. No condition. -/
import Derived.Test.YtjlgkefklklphaaDoorP1
import Derived.Maps.AppendAt
import Derived.Deep.AppendLies
namespace Go.Proofs.YtjlgkefklklphaaDoor
open Go.RowKit

theorem ownsRow_sl {w : World} {base : Nat} {e : TypeId} {A : Option Addr} {n cap : Nat} {size : Nat} {xs : List Value} (h : w.ownsRow base e size (.slice A n cap) n xs) : SlR w A xs := fun hne => by
  rcases h.2 with ⟨hv, h0⟩ | ⟨g, cap', cur, hv, hg, hh, hn, hc, hs, ht⟩
  · exfalso
    apply hne
    have := h.1
    rw [h0, Nat.zero_mul] at this
    exact List.eq_nil_of_length_eq_zero this
  · injection hv with hA
    refine ⟨g, 0, hA, ?_, fun j u hu => ?_⟩
    · rcases Nat.lt_or_ge g w.heap.size with hlt | hge
      · exact hlt
      · rw [Array.getElem?_eq_none hge] at hh; cases hh
    · rw [cell_of_row w g (0 + j) cur e (0, 0) hh]
      rw [← ht] at hu
      have hlt : j < n * size := by
        rcases Nat.lt_or_ge j (n * size) with h1 | h1
        · exact h1
        · rw [List.getElem?_eq_none (by rw [List.length_take]; omega)] at hu; cases hu
      rw [List.getElem?_take_of_lt hlt] at hu
      simpa using hu

theorem ownsRow_le {w : World} {base : Nat} {e : TypeId} {A : Option Addr} {n cap : Nat} {size : Nat} {xs : List Value} (h : w.ownsRow base e size (.slice A n cap) n xs) : n ≤ cap := by
  rcases h.2 with ⟨hv, h0⟩ | ⟨g, cap', cur, hv, hg, hh, hn, _⟩
  · omega
  · injection hv with _ _ hc
    omega

section
variable {P : Program} (w : World)

theorem run_append_of_nil (base : Nat) (t ty e : TypeId) (i : TypeInfo) (size : Nat) (ht : P.underlying t = some (.slice e)) (hi : P.info? e = some i)
    (v : Value) (n : Nat) (xs : List Value) (hown : w.ownsRow base e size v n xs) (c : Nat) : (Builtin.append_ #[t, t] ty #[v, .slice none 0 c]).run P w = .ok v w := by
  rcases hown.2 with ⟨rfl, rfl⟩ | ⟨g, cap, cur, rfl, _, _, hnc, _⟩
  · simp [Builtin.append_, run_underlying ht, sizeOf, typeInfo, hi, Builtin.lenOf, Builtin.firstCells]
  · simp [Builtin.append_, run_underlying ht, sizeOf, typeInfo, hi, Builtin.lenOf, Builtin.firstCells, hnc, storeCells]

theorem run_app (base : Nat) (t ty e : TypeId) (i : TypeInfo) (z : Value) (size bytes : Nat) (ht : P.underlying t = some (.slice e)) (hi : P.info? e = some i) (hz : i.zero = some z)
    (hsize : i.size = size) (hby : i.bytes = bytes) (hzs : z.cells.size = size) (hsz : 0 < size)
    (A0 : Option Addr) (n c0 : Nat) (xs : List Value) (hown : w.ownsRow base e size (.slice A0 n c0) n xs)
    (B : Option Addr) (m c : Nat) (news : List Value) (hl : news.length = m * size) (hr : SlR w B news) (h1 : ∀ u ∈ news, u.oneCell' = true)
    (h63 : n + m ≤ maxLen) (hbytes : (n + m) * bytes ≤ 140737488355328) (hbase : base ≤ w.heap.size) :
    ∃ A cap w', (Builtin.append_ #[t, t] ty #[.slice A0 n c0, .slice B m c]).run P w = .ok (.slice A (n + m) cap) w' ∧ w'.ownsRow base e size (.slice A (n + m) cap) (n + m) (xs ++ news) ∧
      w.grownBy w' (Value.ownBlock (.slice A0 n c0)) ∧ Below base w w' := by
  have key : ∃ v' w', (Builtin.append_ #[t, t] ty #[.slice A0 n c0, .slice B m c]).run P w = .ok v' w' ∧ w'.ownsRow base e size v' (n + m) (xs ++ news) ∧ w.grownBy w' (Value.ownBlock (.slice A0 n c0)) := by
    rcases B with _ | a
    · have hn : news = [] := by
        by_cases h : news = []
        · exact h
        · obtain ⟨b, off, h, _⟩ := hr h
          cases h
      subst hn
      have hm : m = 0 := by
        have : m * size = 0 := by rw [← hl]; rfl
        rcases Nat.mul_eq_zero.1 this with h | h
        · exact h
        · omega
      subst hm
      exact ⟨_, w, run_append_of_nil w base t ty e i size ht hi _ n xs hown c, by simpa using hown, World.grownBy.refl w _⟩
    · have hcells : ∀ j u, news[j]? = some u → w.cell? (a.add j) = some u := by
        intro j u hu
        obtain ⟨b, off, h, _, hc⟩ := hr (by rintro rfl; simp at hu)
        injection h with h
        subst h
        have hadd : (⟨b, off, none⟩ : Addr).add j = ⟨b, off + j, none⟩ := by unfold Addr.add; split <;> simp_all
        rw [hadd]
        exact hc j u hu
      obtain ⟨v', w', hrun, h2, h3, _, _⟩ := run_append_own_at (P := P) w base t ty e i z size bytes ht hi hz hsize hby hzs hsz _ n xs hown a m c news hl hcells h1 h63 hbytes hbase
      exact ⟨v', w', hrun, h2, h3⟩
  obtain ⟨v', w', hrun, h2, h3⟩ := key
  have hb : Below base w w' := (Below.refl base w).grown h3 hbase (fun k hk => (hown.lt k hk).1)
  rcases h2.2 with ⟨rfl, h0⟩ | ⟨g, cap, cur, rfl, _⟩
  · exact ⟨none, 0, w', by rw [h0]; exact hrun, by rw [h0] at h2 ⊢; exact h2, h3, hb⟩
  · exact ⟨some ⟨g, 0, none⟩, cap, w', hrun, h2, h3, hb⟩

theorem wp_app {o : Oper} {a : Act} {K : Act → World → Prop} {Q : Exit → Act → World → Prop} (s x : Operand) (t : TypeId)
    (ho : o.op = .call { callee := .builtin .append, args := #[s, x], argTypes := #[t, t] })
    (base : Nat) (e : TypeId) (i : TypeInfo) (z : Value) (size bytes : Nat) (ht : P.underlying t = some (.slice e)) (hi : P.info? e = some i) (hz : i.zero = some z)
    (hsize : i.size = size) (hby : i.bytes = bytes) (hzs : z.cells.size = size) (hsz : 0 < size)
    (A0 : Option Addr) (n c0 : Nat) (xs : List Value) (hs : a.eval s = .slice A0 n c0) (hown : w.ownsRow base e size (.slice A0 n c0) n xs)
    (B : Option Addr) (m c : Nat) (news : List Value) (hx : a.eval x = .slice B m c) (hl : news.length = m * size) (hr : SlR w B news) (h1 : ∀ u ∈ news, u.oneCell' = true)
    (h63 : n + m ≤ maxLen) (hbytes : (n + m) * bytes ≤ 140737488355328) (hbase : base ≤ w.heap.size)
    (h : ∀ A cap w', w'.ownsRow base e size (.slice A (n + m) cap) (n + m) (xs ++ news) → w.grownBy w' (Value.ownBlock (.slice A0 n c0)) → Below base w w' → K (a.put o.dst (.slice A (n + m) cap)) w') : o.wp P a w K Q := by
  obtain ⟨A, cap, w', hrun, h2, h3, h4⟩ := run_app (P := P) w base t o.type e i z size bytes ht hi hz hsize hby hzs hsz A0 n c0 xs hown B m c news hl hr h1 h63 hbytes hbase
  unfold Oper.wp execOp
  simp only [ho, resolve, invoke, builtin, Sem.run_bind, Sem.run_pure, Result.andThen_ok, List.map_toArray, List.map_cons, List.map_nil, hs, hx, hrun]
  exact h A cap w' h2 h3 h4

theorem wpList_app {ops : Array Oper} {rest : List Oper} {o : Oper} {a : Act} {Q : Exit → Act → World → Prop} (hgd : o.guard = none) (s x : Operand) (t : TypeId)
    (ho : o.op = .call { callee := .builtin .append, args := #[s, x], argTypes := #[t, t] })
    (base : Nat) (e : TypeId) (i : TypeInfo) (z : Value) (size bytes : Nat) (ht : P.underlying t = some (.slice e)) (hi : P.info? e = some i) (hz : i.zero = some z)
    (hsize : i.size = size) (hby : i.bytes = bytes) (hzs : z.cells.size = size) (hsz : 0 < size)
    (A0 : Option Addr) (n c0 : Nat) (xs : List Value) (hs : a.eval s = .slice A0 n c0) (hown : w.ownsRow base e size (.slice A0 n c0) n xs)
    (B : Option Addr) (m c : Nat) (news : List Value) (hx : a.eval x = .slice B m c) (hl : news.length = m * size) (hr : SlR w B news) (h1 : ∀ u ∈ news, u.oneCell' = true)
    (h63 : n + m ≤ maxLen) (hbytes : (n + m) * bytes ≤ 140737488355328) (hbase : base ≤ w.heap.size)
    (h : ∀ A cap w', w'.ownsRow base e size (.slice A (n + m) cap) (n + m) (xs ++ news) → w.grownBy w' (Value.ownBlock (.slice A0 n c0)) → Below base w w' → wpList P ops Q rest (a.put o.dst (.slice A (n + m) cap)) w') : wpList P ops Q (o :: rest) a w :=
  wpList_plain hgd fun _ hK => wp_app w s x t ho base e i z size bytes ht hi hz hsize hby hzs hsz A0 n c0 xs hs hown B m c news hx hl hr h1 h63 hbytes hbase fun A cap w' h2 h3 h4 => hK _ _ (h A cap w' h2 h3 h4)

theorem step_app {ops : Array Oper} {o : Oper} {a : Act} {K : Act → World → Prop} {Q : Exit → Act → World → Prop} {E : Prop} (hgd : o.guard = none) (s x : Operand) (t : TypeId)
    (ho : o.op = .call { callee := .builtin .append, args := #[s, x], argTypes := #[t, t] })
    (base : Nat) (e : TypeId) (i : TypeInfo) (z : Value) (size bytes : Nat) (ht : P.underlying t = some (.slice e)) (hi : P.info? e = some i) (hz : i.zero = some z)
    (hsize : i.size = size) (hby : i.bytes = bytes) (hzs : z.cells.size = size) (hsz : 0 < size)
    (A0 : Option Addr) (n c0 : Nat) (xs : List Value) (hs : a.eval s = .slice A0 n c0) (hown : w.ownsRow base e size (.slice A0 n c0) n xs)
    (B : Option Addr) (m c : Nat) (news : List Value) (hx : a.eval x = .slice B m c) (hl : news.length = m * size) (hr : SlR w B news) (h1 : ∀ u ∈ news, u.oneCell' = true)
    (h63 : n + m ≤ maxLen) (hbytes : (n + m) * bytes ≤ 140737488355328) (hbase : base ≤ w.heap.size)
    (h : ∀ A cap w', w'.ownsRow base e size (.slice A (n + m) cap) (n + m) (xs ++ news) → w.grownBy w' (Value.ownBlock (.slice A0 n c0)) → Below base w w' → K (a.put o.dst (.slice A (n + m) cap)) w') :
    if Region.wanted o (yielded ops a.tmps) = true then Oper.wp P o a w K Q else E := by
  have hw : Region.wanted o (yielded ops a.tmps) = true := by simp [Region.wanted, hgd]
  rw [if_pos hw]
  exact wp_app w s x t ho base e i z size bytes ht hi hz hsize hby hzs hsz A0 n c0 xs hs hown B m c news hx hl hr h1 h63 hbytes hbase h
end

theorem ownsRow_below {w w' : World} {base : Nat} {e : TypeId} {size : Nat} {v : Value} {n : Nat} {xs : List Value} (h : w.ownsRow base e size v n xs) (hb : Below w.heap.size w w') : w'.ownsRow base e size v n xs := by
  refine ⟨h.1, ?_⟩
  rcases h.2 with h0 | ⟨g, cap, cur, hv, hg, hh, r⟩
  · exact .inl h0
  · have hlt : g < w.heap.size := by
      rcases Nat.lt_or_ge g w.heap.size with hlt | hge
      · exact hlt
      · rw [Array.getElem?_eq_none hge] at hh; cases hh
    exact .inr ⟨g, cap, cur, hv, hg, (hb.block g hlt).trans hh, r⟩


theorem info_int : (Tryd.prog.info? 3).map (fun i => (i.zero, i.size, i.bytes)) = some (some (.int .i64 0), 1, 8) := by kernel_rfl
theorem i64s_one (l : List Int) : ∀ u ∈ i64s l, u.oneCell' = true := by
  intro u hu
  simp only [i64s, List.mem_map] at hu
  obtain ⟨x, _, rfl⟩ := hu
  rfl
theorem i64s_append (l m : List Int) : i64s (l ++ m) = i64s l ++ i64s m := by simp [i64s]
theorem SlR.grownI {w w' : World} {A : Option Addr} {l : List Int} {g : Nat} (h : SlR w A (i64s l)) (hg : w.grownBy w' (some g)) (hne : l ≠ [] → ∀ a, A = some a → a.block ≠ g) : SlR w' A (i64s l) := fun hn =>
  SlR.grown h hg (hne (by rintro rfl; exact hn rfl)) hn
theorem MapAt.grown {W W' : World} {gm gw n g : Nat} {ws : List Nat} (h : MapAt W gm gw n ws) (hg : W.grownBy W' (some g)) (h1 : gm ≠ g) (h2 : gw ≠ g) : MapAt W' gm gw n ws :=
  ⟨(hg.block gm h.lt.1 (fun e => h1 (by injection e))).trans h.1, (hg.block gw h.lt.2 (fun e => h2 (by injection e))).trans h.2.1, h.2.2⟩

/-! ## the plain law of MapOrder -/
theorem bit_rev {n : Nat} {ws : List Nat} (h : WF n ws) (l : List Int) (j : Nat) : bitW (setL true n ws l.reverse) j = bitW (setL true n ws l) j := by
  rw [bitW_setL j _ h, bitW_setL j _ h]
  simp
theorem order_back {n : Nat} {bs : List Nat} (h : WF n bs) (more : List Int) : setL false n (setL true n bs more) (more.filter fun i => !getB n bs i) = bs := by
  refine same_words (WF_setL _ (WF_setL _ h)) h fun j hj => ?_
  rw [bitW_setL j _ (WF_setL _ h), bitW_setL j _ h]
  have e : getB n bs (j : Int) = bitW bs j := by simp [getB, hj]
  by_cases h1 : (j : Int) ∈ more
  · cases h2 : bitW bs j
    · simp [h1, hj, List.mem_filter, e, h2]
    · simp [h1, hj, List.mem_filter, e, h2]
  · simp [h1, List.mem_filter]
theorem order_count {n : Nat} {bs : List Nat} (h : WF n bs) (more : List Int) : cntL true n bs more = cntL false n (setL true n bs more) (more.filter fun i => !getB n bs i) := by
  have h1 := popL_setL_on more h
  have h2 := popL_setL_off (more.filter fun i => !getB n bs i) (WF_setL (on := true) more h)
  rw [order_back h more] at h2
  omega
end Go.Proofs.YtjlgkefklklphaaDoor
