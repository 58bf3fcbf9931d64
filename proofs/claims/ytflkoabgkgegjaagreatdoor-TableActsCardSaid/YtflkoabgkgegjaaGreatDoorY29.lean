/- The reference's cache in memory, beside the program's. No condition. And what follows from it. -/
import Derived.Test.YtflkoabgkgegjaaGreatDoorY22
import Derived.Test.YtflkoabgkgegjaaGreatDoorY27
import Derived.Test.YtflkoabgkgegjaaGreatDoorY28
/- The reference's cache in memory, beside the program's. No condition. -/
namespace Go.Proofs.YtflkoabgkgegjaaGreatDoor
open Go.RowKit Go.Maps

/-- two blocks of the reference turn -/
inductive RT (ok : Nat → Prop) : World → World → Prop
  | refl (w : World) : RT ok w w
  | step {w w1 w2 : World} {x : Nat} : RT ok w w1 → (∃ cs t, w1.heap[x]? = some (.cells cs t (0, 0)) ∧ (t = 138 ∨ t = 94)) → ok x → w1.grownBy w2 (some x) → RT ok w w2
theorem RT.size {ok : Nat → Prop} {a b : World} (h : RT ok a b) : a.heap.size ≤ b.heap.size := by
  induction h with
  | refl => exact Nat.le_refl _
  | step _ _ _ h5 ih => exact Nat.le_trans ih h5.size
theorem RT.block {ok : Nat → Prop} {a b : World} (h : RT ok a b) : ∀ x, x < a.heap.size → ¬ ok x → b.heap[x]? = a.heap[x]? := by
  induction h with
  | refl => exact fun x _ _ => rfl
  | step h2 h3 h4 h5 ih => exact fun x hx hn => (h5.block x (Nat.lt_of_lt_of_le hx h2.size) (fun e => hn (by injection e with e; rw [e]; exact h4))).trans (ih x hx hn)
theorem RT.trans {ok : Nat → Prop} {a b c : World} (h1 : RT ok a b) (h2 : RT ok b c) : RT ok a c := by
  induction h2 with
  | refl => exact h1
  | step _ h3 h4 h5 ih => exact .step ih h3 h4 h5
/-- a slice's values in a block of a type -/
def HeldT (t : TypeId) (w : World) (A : Option Addr) (xs : List Value) : Prop := xs ≠ [] → ∃ b off cs, A = some ⟨b, off, none⟩ ∧ w.heap[b]? = some (.cells cs t (0, 0)) ∧ ∀ j u, xs[j]? = some u → cs[off + j]? = some u
section
variable {w w' : World} {A : Option Addr} {xs : List Value} {t : TypeId}
theorem HeldT.sl (h : HeldT t w A xs) : SlR w A xs := fun hne => by
  obtain ⟨b, off, cs, h1, h2, h4⟩ := h hne
  exact ⟨b, off, h1, blt h2, fun j u hu => (cell_of_row _ _ _ _ _ _ h2).trans (h4 j u hu)⟩
theorem HeldT.keep (h : HeldT t w A xs) (hk : KeepP w w') (ht : OffP t) : HeldT t w' A xs := fun hne => by
  obtain ⟨b, off, cs, h1, h2, h4⟩ := h hne
  exact ⟨b, off, cs, h1, hk _ _ _ h2 ht, h4⟩
theorem HeldT.below (h : HeldT t w A xs) (hb : Below w.heap.size w w') : HeldT t w' A xs := fun hne => by
  obtain ⟨b, off, cs, h1, h2, h4⟩ := h hne
  exact ⟨b, off, cs, h1, (hb.block _ (blt h2)).trans h2, h4⟩
theorem HeldT.turn {g : Nat} {ds : Array Value} {u : TypeId} (h : HeldT t w A xs) (hg : w.grownBy w' (some g)) (hd : w.heap[g]? = some (.cells ds u (0, 0))) (hu : t ≠ u) : HeldT t w' A xs := fun hne => by
  obtain ⟨b, off, cs, h1, h2, h4⟩ := h hne
  exact ⟨b, off, cs, h1, (hg.block _ (blt h2) (fun e => two_types h2 hd hu (by injection e))).trans h2, h4⟩
theorem HeldT.nil (w : World) (A : Option Addr) : HeldT t w A [] := fun h => absurd rfl h
theorem heldT_own {base size n cap : Nat} (h : w.ownsRow base t size (.slice A n cap) n xs) : HeldT t w A xs := fun hne => by
  rcases h.2 with ⟨hv, h0⟩ | ⟨g, cap', cur, hv, hg, hh, hn, hc, hs, ht⟩
  · exfalso
    apply hne
    have := h.1
    rw [h0, Nat.zero_mul] at this
    exact List.eq_nil_of_length_eq_zero this
  · injection hv with hA
    subst hA
    refine ⟨g, 0, cur, rfl, hh, fun j u hu => ?_⟩
    rw [Nat.zero_add]
    rw [← ht] at hu
    have hlt : j < n * size := by
      rcases Nat.lt_or_ge j (n * size) with h1 | h1
      · exact h1
      · rw [List.getElem?_eq_none (by rw [List.length_take]; omega)] at hu; cases hu
    rw [List.getElem?_take_of_lt hlt] at hu
    simpa using hu
end
theorem HeldS.keep {w w' : World} {s : Option Addr × List Value} (h : HeldS w s) (hk : KeepP w w') (ht : OffP (tyOf s.2)) : HeldS w' s := fun hne => by
  obtain ⟨b, off, cs, t, h1, h2, h3, h4⟩ := h hne
  exact ⟨b, off, cs, t, h1, hk _ _ _ h2 (by rw [h3.2]; exact ht), h3, h4⟩
theorem RB.keep {w w' : World} {g top : Nat} {A1 A2 : Option Addr} {c1 c2 : Nat} {LF LU : List (Nat × Nat)} (h : RB w g top A1 c1 LF A2 c2 LU) (hk : KeepP w w') : RB w' g top A1 c1 LF A2 c2 LU :=
  ⟨h.row.keep hk (show OffP 138 from ⟨⟨by decide, by decide, by decide⟩, by decide, by decide⟩), h.f.keep hk (by rw [tyOf_bCells]; exact ⟨⟨by decide, by decide, by decide⟩, by decide, by decide⟩), h.u.keep hk (by rw [tyOf_bCells]; exact ⟨⟨by decide, by decide, by decide⟩, by decide, by decide⟩), h.cf, h.cu⟩
theorem HeldS.turn {w w' : World} {s : Option Addr × List Value} {g : Nat} {ds : Array Value} {u : TypeId} (h : HeldS w s) (hg : w.grownBy w' (some g)) (hd : w.heap[g]? = some (.cells ds u (0, 0))) (hu : tyOf s.2 ≠ u) : HeldS w' s := fun hne => by
  obtain ⟨b, off, cs, t, h1, h2, h3, h4⟩ := h hne
  exact ⟨b, off, cs, t, h1, (hg.block _ (blt h2) (fun e => two_types h2 hd (by rw [h3.2]; exact hu) (by injection e))).trans h2, h3, h4⟩
theorem RB.turn {w w' : World} {g top r : Nat} {ds : Array Value} {A1 A2 : Option Addr} {c1 c2 : Nat} {LF LU : List (Nat × Nat)} (h : RB w g top A1 c1 LF A2 c2 LU) (hg : w.grownBy w' (some r)) (hd : w.heap[r]? = some (.cells ds 94 (0, 0))) : RB w' g top A1 c1 LF A2 c2 LU :=
  ⟨h.row.turn hg hd (show 138 ≠ 94 by decide), h.f.turn hg hd (by rw [tyOf_bCells]; decide), h.u.turn hg hd (by rw [tyOf_bCells]; decide), h.cf, h.cu⟩
/-- the reference's row -/
def rRow (g : Nat) (size : Int) (S1 : Option Addr) (n1 d1 : Nat) (S2 : Option Addr) (n2 d2 : Nat) : Array Value := #[.pointer (some ⟨g, 0, none⟩), .int .i64 size, .slice S1 n1 d1, .slice S2 n2 d2]
/-- the reference's cache: its slabs, its used places, its allocator -/
structure RC (w : World) (r g size top : Nat) (A1 : Option Addr) (c1 : Nat) (A2 : Option Addr) (c2 : Nat) (l : List Tl) (S1 : Option Addr) (d1 : Nat) (SL : List Int) (S2 : Option Addr) (d2 : Nat) (UL : List Int) : Prop where
  rb : RB w g top A1 c1 (blks true 0 l) A2 c2 (blks false 0 l)
  row : w.heap[r]? = some (.cells (rRow g (size : Int) S1 SL.length d1 S2 UL.length d2) 94 (0, 0))
  sl : HeldT 3 w S1 (i64s SL)
  ul : HeldT 3 w S2 (i64s UL)
  cs : SL.length ≤ d1
  cu : UL.length ≤ d2
section
variable {w w' : World} {r g size top : Nat} {A1 A2 S1 S2 : Option Addr} {c1 c2 d1 d2 : Nat} {l : List Tl} {SL UL : List Int}
theorem RC.r0 (h : RC w r g size top A1 c1 A2 c2 l S1 d1 SL S2 d2 UL) : w.cell? ⟨r, 0, none⟩ = some (.pointer (some ⟨g, 0, none⟩)) := by rw [cell_of_row _ _ _ _ _ _ h.row]; rfl
theorem RC.r1 (h : RC w r g size top A1 c1 A2 c2 l S1 d1 SL S2 d2 UL) : w.cell? ⟨r, 1, none⟩ = some (.int .i64 (size : Int)) := by rw [cell_of_row _ _ _ _ _ _ h.row]; rfl
theorem RC.r2 (h : RC w r g size top A1 c1 A2 c2 l S1 d1 SL S2 d2 UL) : w.cell? ⟨r, 2, none⟩ = some (.slice S1 SL.length d1) := by rw [cell_of_row _ _ _ _ _ _ h.row]; rfl
theorem RC.r3 (h : RC w r g size top A1 c1 A2 c2 l S1 d1 SL S2 d2 UL) : w.cell? ⟨r, 3, none⟩ = some (.slice S2 UL.length d2) := by rw [cell_of_row _ _ _ _ _ _ h.row]; rfl
theorem RC.froz (h : RC w r g size top A1 c1 A2 c2 l S1 d1 SL S2 d2 UL) (i : Nat) : w.frozen? ⟨r, i, none⟩ = false := frozen_of_row _ _ _ _ _ h.row
theorem RC.lt (h : RC w r g size top A1 c1 A2 c2 l S1 d1 SL S2 d2 UL) : r < w.heap.size := blt h.row
theorem RC.below (h : RC w r g size top A1 c1 A2 c2 l S1 d1 SL S2 d2 UL) (hb : Below w.heap.size w w') : RC w' r g size top A1 c1 A2 c2 l S1 d1 SL S2 d2 UL :=
  ⟨h.rb.below hb, (hb.block _ (blt h.row)).trans h.row, h.sl.below hb, h.ul.below hb, h.cs, h.cu⟩
theorem RC.keep (h : RC w r g size top A1 c1 A2 c2 l S1 d1 SL S2 d2 UL) (hk : KeepP w w') : RC w' r g size top A1 c1 A2 c2 l S1 d1 SL S2 d2 UL :=
  ⟨h.rb.keep hk, hk _ _ _ h.row ⟨⟨by decide, by decide, by decide⟩, by decide, by decide⟩, h.sl.keep hk ⟨⟨by decide, by decide, by decide⟩, by decide, by decide⟩, h.ul.keep hk ⟨⟨by decide, by decide, by decide⟩, by decide, by decide⟩, h.cs, h.cu⟩
theorem RC.setS (h : RC w r g size top A1 c1 A2 c2 l S1 d1 SL S2 d2 UL) {A : Option Addr} {m d : Nat} {L : List Int} (hA : HeldT 3 w A (i64s L)) (hm : m = L.length) (hd : m ≤ d) : RC (w.setCell ⟨r, 2, none⟩ (.slice A m d)) r g size top A1 c1 A2 c2 l A d L S2 d2 UL := by
  subst hm
  have hg : w.grownBy (w.setCell ⟨r, 2, none⟩ (.slice A L.length d)) (some r) := gb_set (World.grownBy.refl _ _) _ _
  exact ⟨h.rb.turn hg h.row, heap_setCell_same w r 2 _ _ _ h.row, hA.turn hg h.row (by decide), h.ul.turn hg h.row (by decide), hd, h.cu⟩
theorem RC.setU (h : RC w r g size top A1 c1 A2 c2 l S1 d1 SL S2 d2 UL) {A : Option Addr} {m d : Nat} {L : List Int} (hA : HeldT 3 w A (i64s L)) (hm : m = L.length) (hd : m ≤ d) : RC (w.setCell ⟨r, 3, none⟩ (.slice A m d)) r g size top A1 c1 A2 c2 l S1 d1 SL A d L := by
  subst hm
  have hg : w.grownBy (w.setCell ⟨r, 3, none⟩ (.slice A L.length d)) (some r) := gb_set (World.grownBy.refl _ _) _ _
  exact ⟨h.rb.turn hg h.row, heap_setCell_same w r 3 _ _ _ h.row, h.sl.turn hg h.row (by decide), hA.turn hg h.row (by decide), h.cs, hd⟩
/-- the reference's allocator turns -/
theorem RC.turn {B1 B2 : Option Addr} {e1 e2 : Nat} {l' : List Tl} (h : RC w r g size top A1 c1 A2 c2 l S1 d1 SL S2 d2 UL) (hg : w.grownBy w' (some g)) (hr : RB w' g top B1 e1 (blks true 0 l') B2 e2 (blks false 0 l')) : RC w' r g size top B1 e1 B2 e2 l' S1 d1 SL S2 d2 UL := by
  obtain ⟨cs, hcs, _⟩ := h.rb.obj
  exact ⟨hr, (hg.block _ (blt h.row) (fun e => two_types h.row hcs (by decide) (by injection e))).trans h.row, h.sl.turn hg hcs (by decide), h.ul.turn hg hcs (by decide), h.cs, h.cu⟩
theorem RC.stepR {ok : Nat → Prop} {w0 : World} (h : RC w r g size top A1 c1 A2 c2 l S1 d1 SL S2 d2 UL) (hrt : RT ok w0 w) (hb : ok r) (hg : w.grownBy w' (some r)) : RT ok w0 w' := .step hrt ⟨_, _, h.row, .inr rfl⟩ hb hg
theorem RC.stepG {ok : Nat → Prop} {w0 : World} (h : RC w r g size top A1 c1 A2 c2 l S1 d1 SL S2 d2 UL) (hrt : RT ok w0 w) (hb : ok g) (hg : w.grownBy w' (some g)) : RT ok w0 w' := by
  obtain ⟨cs, hcs, _⟩ := h.rb.obj
  exact .step hrt ⟨_, _, hcs, .inl rfl⟩ hb hg
theorem RC.stepB {ok : Nat → Prop} {w0 : World} (h : RC w r g size top A1 c1 A2 c2 l S1 d1 SL S2 d2 UL) (hrt : RT ok w0 w) (hb : ok r) (hbl : Below w.heap.size w w') : RT ok w0 w' := h.stepR hrt hb (below_grown (World.grownBy.refl _ _) hbl)
end
end Go.Proofs.YtflkoabgkgegjaaGreatDoor
/- The reference's Many, Has, Take. Condition: its row is read. -/
namespace Go.Proofs.YtflkoabgkgegjaaGreatDoor
open Go.RowKit Go.Maps

set_option maxRecDepth 100000 in
theorem rmany_any (size M : Nat) (w : World) (hs : 16 ≤ size) (hM : M = 960 / size) (s m : Int) (hs2 : (size : Int) = s) (hm : (M : Int) = m) : Calls Tryz.prog 77 #[.int .i64 s] w fun e w' => e = .returned (.int .i64 m) ∧ w' = w := by
  have t1 : wrap64 (Int.tdiv 960 s) = m := by
    have e : Int.tdiv 960 s = ((960 / size : Nat) : Int) := by
      rw [← hs2, Int.tdiv_eq_ediv_of_nonneg (by omega)]
      rfl
    have := Nat.div_le_self 960 size
    rw [e, ← hm, hM, wrap64]; omega
  have t2 : ¬ (s = 0) := by omega
  clear hs2 hm hM hs
  go_enter Tryz.func77, Tryz.ntmps77
  go_wp2
  rw [t1]
  go_ret
  exact ⟨rfl, rfl⟩
section
variable {w w' : World} {r g size top M : Nat} {A1 A2 S1 S2 : Option Addr} {c1 c2 d1 d2 : Nat} {l : List Tl} {SL UL : List Int}
set_option maxRecDepth 100000 in
theorem rhas_any (h : RC w r g size top A1 c1 A2 c2 l S1 d1 SL S2 d2 UL) (hl : UL.length ≤ 62914560) (x : Int) (b : Bool) (hb : b = true ↔ x ∈ UL) : Calls Tryz.prog 81 #[.pointer (some ⟨r, 0, none⟩), .int .i64 x] w fun e w' => e = .returned (.bool b) ∧ w' = w := by
  obtain ⟨m, hm⟩ : ∃ m, UL.length = m := ⟨_, rfl⟩
  have k3 := h.r3
  rw [hm] at k3 hl
  have HC := Lib.hid (has_r UL m hm.symm (by omega) S2 d2 x b hb w h.ul.sl)
  clear h hl hb hm
  go_enter Tryz.func81, Tryz.ntmps81
  go_wp2_with fail
  refine HC.out.mono ?_
  rintro e w' ⟨rfl, hw⟩
  have h2 := hw.symm
  clear hw
  subst h2
  go_wp2
  go_ret
  exact ⟨rfl, rfl⟩
/-- what the reference's Take does -/
inductive RTk (top M size : Nat) (l : List Tl) (SL UL : List Int) : Int → Int → List Tl → List Int → List Int → Prop
  | old (i k : Nat) (hi : i < SL.length) (hk : k < M) (hno : SL[i] + 64 + ((k * size : Nat) : Int) ∉ UL) (hall : ∀ i' k' (hi' : i' < SL.length), k' < M → (i' < i ∨ i' = i ∧ k' < k) → SL[i'] + 64 + ((k' * size : Nat) : Int) ∈ UL) (UL' : List Int) (hp : PutI UL (SL[i] + 64 + ((k * size : Nat) : Int)) UL') : RTk top M size l SL UL (SL[i] + 64 + ((k * size : Nat) : Int)) 0 l SL UL'
  | none (hall : ∀ i' k' (hi' : i' < SL.length), k' < M → SL[i'] + 64 + ((k' * size : Nat) : Int) ∈ UL) (at_ er : Int) (l' : List Tl) (hne : er ≠ 0) (hc : takeC top l 0 = (at_, er, l')) : RTk top M size l SL UL 0 4 l' SL UL
  | new (hall : ∀ i' k' (hi' : i' < SL.length), k' < M → SL[i'] + 64 + ((k' * size : Nat) : Int) ∈ UL) (at_ : Int) (l' : List Tl) (hc : takeC top l 0 = (at_, 0, l')) (SL' UL' : List Int) (hp1 : PutI SL at_ SL') (hp2 : PutI UL (at_ + 64) UL') : RTk top M size l SL UL (at_ + 64) 0 l' SL' UL'
theorem PutI.len {L L' : List Int} {x : Int} (h : PutI L x L') : L'.length = L.length + 1 := by
  obtain ⟨k, hk, rfl, _⟩ := h
  rw [List.length_append, List.length_cons, List.length_take, List.length_drop]
  omega
set_option maxRecDepth 100000 in
set_option maxHeartbeats 3200000 in
theorem rctake (h : RC w r g size top A1 c1 A2 c2 l S1 d1 SL S2 d2 UL) (hg : Good top l) (ht : top ≤ 20) (hs : 16 ≤ size) (hs2 : size ≤ 512) (hM : M = 960 / size) (hb : ∀ x ∈ SL, 0 ≤ x ∧ x ≤ 1099511627776) (hl1 : SL.length ≤ 62914559) (hl2 : UL.length ≤ 62914559) (ok : Nat → Prop) (hbr : ok r) (hbg : ok g) :
    Calls Tryz.prog 53 #[.pointer (some ⟨r, 0, none⟩)] w fun e w' => ∃ at_ er l' SL' UL', e = .returned (.tuple #[.int .i64 at_, .int .i64 er]) ∧ RTk top M size l SL UL at_ er l' SL' UL' ∧ (∃ B1 e1 B2 e2 T1 f1 T2 f2, RC w' r g size top B1 e1 B2 e2 l' T1 f1 SL' T2 f2 UL') ∧ RT ok w w' := by
  obtain ⟨m1, m2⟩ := size_many hs hs2 hM
  obtain ⟨n1, hn1⟩ : ∃ n1, SL.length = n1 := ⟨_, rfl⟩
  obtain ⟨n2, hn2⟩ : ∃ n2, UL.length = n2 := ⟨_, rfl⟩
  obtain ⟨S, hS⟩ : ∃ S : Int, (size : Int) = S := ⟨_, rfl⟩
  obtain ⟨MM, hMM⟩ : ∃ MM : Int, (M : Int) = MM := ⟨_, rfl⟩
  have HH := Lib.hid h
  have HG := Lib.hid hg
  have HT := Lib.hid ht
  have HN1 := Lib.hid hn1
  have HN2 := Lib.hid hn2
  have HS := Lib.hid hS
  have HMM := Lib.hid hMM
  have HB := Lib.hid hb
  have HL1 : Hid (n1 ≤ 62914559) := Lib.hid (by omega)
  have HL2 : Hid (n2 ≤ 62914559) := Lib.hid (by omega)
  have HSM : Hid (16 ≤ size ∧ size ≤ 512 ∧ M = 960 / size ∧ 0 < M ∧ M ≤ 60) := Lib.hid ⟨hs, hs2, hM, m1, m2⟩
  have R1 : Hid (∀ wx, Below w.heap.size w wx → wx.cell? ⟨r, 1, none⟩ = some (.int .i64 S)) := Lib.hid (fun wx hx => by rw [← hS]; exact (h.below hx).r1)
  have R2 : Hid (∀ wx, Below w.heap.size w wx → wx.cell? ⟨r, 2, none⟩ = some (.slice S1 n1 d1)) := Lib.hid (fun wx hx => by rw [← hn1]; exact (h.below hx).r2)
  have R3 : Hid (∀ wx, Below w.heap.size w wx → wx.cell? ⟨r, 3, none⟩ = some (.slice S2 n2 d2)) := Lib.hid (fun wx hx => by rw [← hn2]; exact (h.below hx).r3)
  clear h hg ht hs hs2 hM hb hl1 hl2 hn1 hn2 hS hMM m1 m2
  go_enter Tryz.func53, Tryz.ntmps53
  go_wp2
  go_loopw [4] (fun x wr => ∃ i : Nat, i ≤ n1 ∧ x = .int .i64 (i : Int) ∧ (∀ i' k' (hi' : i' < SL.length), i' < i → k' < M → SL[i'] + 64 + ((k' * size : Nat) : Int) ∈ UL) ∧ Below w.heap.size w wr) (fun x _ => n1 - (intOf x).toNat)
  case atStart => exact ⟨0, Nat.zero_le _, rfl, fun i' k' _ h => absurd h (Nat.not_lt_zero _), Below.refl _ _⟩
  case round =>
    obtain ⟨i, hi, rfl, hu, hwr⟩ := hrel
    have HU := Lib.hid hu
    have HWR := Lib.hid hwr
    have q2 := R2.out _ hwr
    rename World => wa
    clear hu hwr
    by_cases hlt : i < n1
    · have i0 : (0 : Int) ≤ (i : Int) := by omega
      have i1 : (i : Int) < (n1 : Int) := by omega
      have hil : i < SL.length := by have := HN1.out; omega
      obtain ⟨b, off, ea, q0⟩ := (HH.out.sl.sl.below HWR.out).int hil
      obtain ⟨X, hX⟩ : ∃ X : Int, SL[i] = X := ⟨_, rfl⟩
      have HX := Lib.hid hX
      have HXB : Hid (0 ≤ X ∧ X ≤ 1099511627776) := Lib.hid (by rw [← hX]; exact HB.out _ (List.getElem_mem hil))
      have zi : IntKind.i64.wrap ((i : Int) + 1) = (i : Int) + 1 := by rw [IntKind.wrap_i64]; have := HL1.out; omega
      have HIL := Lib.hid hil
      have QX : Hid (∀ wx, Below w.heap.size w wx → wx.cell? ⟨b, off + i, none⟩ = some (.int .i64 X)) := Lib.hid (fun wx hx => by
        obtain ⟨b', off', e', q'⟩ := (HH.out.sl.sl.below hx).int hil
        rw [ea] at e'
        injection e' with e'
        injection e' with e3 e4
        subst e3 e4
        rw [← hX]
        exact q')
      have HLT := Lib.hid hlt
      subst ea
      clear hX q0 hi hlt
      go_wp2
      go_loopw [5] (fun x wr => ∃ k : Nat, k ≤ M ∧ x = .int .i64 (k : Int) ∧ (∀ k', k' < k → X + 64 + ((k' * size : Nat) : Int) ∈ UL) ∧ Below w.heap.size w wr) (fun x _ => M - (intOf x).toNat)
      case atStart => exact ⟨0, Nat.zero_le _, rfl, fun k' h => absurd h (Nat.not_lt_zero _), HWR.out⟩
      case round =>
        obtain ⟨k, hk, rfl, hv, hwr⟩ := hrel
        have HV := Lib.hid hv
        have HW := Lib.hid hwr
        have p1 := R1.out _ hwr
        have p2 := R2.out _ hwr
        have p3 := R3.out _ hwr
        have p4 := QX.out _ hwr
        clear hv hwr q2
        go_wp2_with fail
        refine (rmany_any size M _ HSM.out.1 HSM.out.2.2.1 S MM HS.out HMM.out).mono ?_
        rintro e w' ⟨rfl, hw⟩
        have hw2 := hw.symm
        clear hw
        subst hw2
        by_cases hkm : k < M
        · have k1 : decide ((k : Int) < MM) = true := decide_eq_true (by have := HMM.out; omega)
          obtain ⟨K, hK⟩ : ∃ K : Int, (k : Int) = K := ⟨_, rfl⟩
          have h60 : k * size ≤ 60 * 512 := Nat.mul_le_mul (by have := HSM.out; omega) HSM.out.2.1
          obtain ⟨X6, hX6⟩ : ∃ X6 : Int, X + 64 = X6 := ⟨_, rfl⟩
          obtain ⟨Z, hZ⟩ : ∃ Z : Int, ((k * size : Nat) : Int) = Z := ⟨_, rfl⟩
          obtain ⟨Y, hY⟩ : ∃ Y : Int, X6 + Z = Y := ⟨_, rfl⟩
          have z1 : IntKind.i64.wrap (X + 64) = X6 := by rw [IntKind.wrap_i64]; have := HXB.out; omega
          have z2 : IntKind.i64.wrap (K * S) = Z := by
            have e : K * S = ((k * size : Nat) : Int) := by rw [← hK, ← HS.out, Int.natCast_mul]
            rw [e, hZ, IntKind.wrap_i64]; omega
          have z3 : IntKind.i64.wrap (X6 + Z) = Y := by rw [IntKind.wrap_i64]; have := HXB.out; omega
          have zk : IntKind.i64.wrap (K + 1) = K + 1 := by rw [IntKind.wrap_i64]; have := HSM.out; omega
          have HY : Hid (X + 64 + ((k * size : Nat) : Int) = Y) := Lib.hid (by rw [hX6, hZ, hY])
          have HK := Lib.hid hK
          have HKM := Lib.hid hkm
          rw [hK] at k1
          rw [hK]
          clear hK h60 hX6 hZ hY hkm hk
          go_wp2_with fail
          go_quiet (fail)
          have HD : Hid (Below w.heap.size w (wr.drewN nq)) := Lib.hid (below_drewN HW.out nq)
          obtain ⟨wd, hwd⟩ : ∃ wd, wr.drewN nq = wd := ⟨_, rfl⟩
          rw [hwd] at HD
          rw [hwd]
          clear p1 p2 p3 p4 hwd
          have p3 := R3.out _ HD.out
          by_cases q : Y ∈ UL
          · go_wp2_with fail
            refine (has_r UL n2 HN2.out.symm (by have := HL2.out; omega) S2 d2 Y true (by simp [q]) _ (HH.out.ul.sl.below HD.out)).mono ?_
            rintro e w' ⟨rfl, hw⟩
            have hw2 := hw.symm
            clear hw
            subst hw2
            have HV2 : Hid (∀ k', k' < k + 1 → X + 64 + ((k' * size : Nat) : Int) ∈ UL) := Lib.hid (fun k' h' => by
              by_cases e : k' = k
              · subst e; rw [HY.out]; exact q
              · exact HV.out k' (by omega))
            clear q
            go_wp2
            go_roundw
            case rel => exact ⟨k + 1, by have := HKM.out; omega, by rw [← HK.out]; go_num, HV2.out, HD.out⟩
            case measure => have := HKM.out; have := HK.out; (try simp [intOf]) <;> omega
          · go_wp2_with fail
            refine (has_r UL n2 HN2.out.symm (by have := HL2.out; omega) S2 d2 Y false (by simp [q]) _ (HH.out.ul.sl.below HD.out)).mono ?_
            rintro e w' ⟨rfl, hw⟩
            have hw2 := hw.symm
            clear hw
            subst hw2
            have HQ := Lib.hid q
            clear q
            go_wp2_with fail
            refine (put_i UL n2 HN2.out.symm (by have := HL2.out; omega) S2 d2 (by have := HH.out.cu; have := HN2.out; omega) Y _ (HH.out.ul.sl.below HD.out)).mono ?_
            rintro e w5 ⟨A', c', L', rfl, hp, ho, hb5⟩
            have h5 := (HH.out.below HD.out).below hb5
            have HT5 := Lib.hid (heldT_own ho)
            have HC5 := Lib.hid (ownsRow_le ho)
            have x3 := h5.r3
            have f3 := h5.froz 3
            have HP := Lib.hid hp
            have H5 := Lib.hid h5
            have HB5 := Lib.hid hb5
            clear hp ho hb5 h5 p3
            go_wp2
            go_ret2
            have h6 := H5.out.setU (d := c') HT5.out (by rw [HP.out.len, HN2.out]) HC5.out
            refine ⟨Y, 0, l, SL, L', rfl, ?_, ⟨_, _, _, _, _, _, _, _, h6⟩, ?_⟩
            · have hx := HX.out
              have hy := HY.out
              subst hx
              subst hy
              exact .old i k HIL.out HKM.out HQ.out (fun i' k' hi' hk' hc => by
                rcases hc with hc | ⟨rfl, hc⟩
                · exact HU.out i' k' hi' hc hk'
                · exact HV.out k' hc) L' HP.out
            · exact H5.out.stepR (HH.out.stepB (RT.refl _) hbr (HD.out.trans (HB5.out.mono HD.out.size))) hbr (gb_set (World.grownBy.refl _ _) _ _)
        · have k1 : decide ((k : Int) < MM) = false := decide_eq_false (by have := HMM.out; omega)
          have HU2 : Hid (∀ i' k' (hi' : i' < SL.length), i' < i + 1 → k' < M → SL[i'] + 64 + ((k' * size : Nat) : Int) ∈ UL) := Lib.hid (fun i' k' hi' h1 h2 => by
            by_cases e : i' = i
            · subst e; rw [HX.out]; exact HV.out k' (by omega)
            · exact HU.out i' k' hi' (by omega) h2)
          clear hkm hk p1 p2 p3 p4
          go_wp2
          go_roundw
          case rel => exact ⟨i + 1, HLT.out, by go_num, HU2.out, HW.out⟩
          case measure => have := HLT.out; (try simp [intOf]) <;> omega
    · have i1 : ¬ ((i : Int) < (n1 : Int)) := by omega
      have HALL : Hid (∀ i' k' (hi' : i' < SL.length), k' < M → SL[i'] + 64 + ((k' * size : Nat) : Int) ∈ UL) := Lib.hid (fun i' k' hi' h2 => HU.out i' k' hi' (by have := HN1.out; omega) h2)
      obtain ⟨at_, er, l', hc⟩ : ∃ at_ er l', takeC top l 0 = (at_, er, l') := ⟨_, _, _, rfl⟩
      have HC := Lib.hid hc
      have ha := HH.out.below HWR.out
      have HA := Lib.hid ha
      have p0 := ha.r0
      clear hlt hi hc ha
      go_wp2_with fail
      refine (rtake_any HA.out.rb HG.out HT.out 0).mono ?_
      rintro e w5 ⟨a1, e1, rfl, l1, hr, ⟨B1, f1, B2, f2, hrb⟩, hg5⟩
      have he := hr.eq
      rw [HC.out] at he
      injection he with t1 t2
      injection t2 with t2 t3
      subst t1 t2 t3
      have h5 := HA.out.turn hg5 hrb
      have H5 := Lib.hid h5
      have HR5 := Lib.hid (HA.out.stepG (HH.out.stepB (RT.refl _) hbr HWR.out) hbg hg5)
      have HAT : Hid (er = 0 → 0 ≤ at_ ∧ at_ ≤ 1099511627776) := Lib.hid (fun e0 => by
        rcases hr with ⟨_, _, h2, _⟩ | ⟨q, _, _, ⟨_, _, h2, _⟩ | ⟨k, a, c, h1, _, _, _, h2, _⟩⟩
        · rw [e0] at h2; cases h2
        · rw [e0] at h2; cases h2
        · have h3 := HG.out.all
          rw [h1, span_append, span] at h3
          have h4 : 2 ^ top ≤ 2 ^ 20 := Nat.pow_le_pow_right (by decide) HT.out
          simp only at h3
          have h5 := two_pos k
          rw [h2]
          omega)
      have x2 := h5.r2
      have f2 := h5.froz 2
      rw [HN1.out] at x2
      clear hr hrb hg5 h5
      by_cases q : er = 0
      · have t1 : (er != 0) = false := by simp [q]
        obtain ⟨Y, hY⟩ : ∃ Y : Int, at_ + 64 = Y := ⟨_, rfl⟩
        have zy : IntKind.i64.wrap (at_ + 64) = Y := by rw [IntKind.wrap_i64]; have := HAT.out q; omega
        have HY := Lib.hid hY
        have HQ := Lib.hid q
        clear q hY
        go_wp2_with fail
        refine (put_i SL n1 HN1.out.symm (by have := HL1.out; omega) S1 d1 (by have := HH.out.cs; have := HN1.out; omega) at_ _ H5.out.sl.sl).mono ?_
        rintro e w6 ⟨A', c', L', rfl, hp, ho, hb6⟩
        have h6 := H5.out.below hb6
        have HP := Lib.hid hp
        have HB6 := Lib.hid hb6
        have h7 := h6.setS (d := c') (heldT_own ho) (by rw [hp.len, HN1.out]) (ownsRow_le ho)
        have HR7 := Lib.hid (h6.stepR (H5.out.stepB HR5.out hbr hb6) hbr (gb_set (World.grownBy.refl _ _) 2 (.slice A' (n1 + 1) c')))
        have H7 := Lib.hid h7
        have x2' := h6.r2
        have f2' := h6.froz 2
        have x3 := h7.r3
        rw [HN2.out] at x3
        clear x2 f2 hp ho hb6 h6 h7
        go_wp2_with fail
        refine (put_i UL n2 HN2.out.symm (by have := HL2.out; omega) S2 d2 (by have := HH.out.cu; have := HN2.out; omega) Y _ H7.out.ul.sl).mono ?_
        rintro e w8 ⟨A8, c8, L8, rfl, hp8, ho8, hb8⟩
        have h8 := H7.out.below hb8
        have HP8 := Lib.hid hp8
        have h9 := h8.setU (d := c8) (heldT_own ho8) (by rw [hp8.len, HN2.out]) (ownsRow_le ho8)
        have HR9 := Lib.hid (h8.stepR (H7.out.stepB HR7.out hbr hb8) hbr (gb_set (World.grownBy.refl _ _) 3 (.slice A8 (n2 + 1) c8)))
        have H9 := Lib.hid h9
        have x4 := h8.r3
        have f4 := h8.froz 3
        clear x2' f2' x3 hp8 ho8 hb8 h8 h9
        go_wp2
        go_ret2
        refine ⟨Y, 0, l', L', L8, rfl, ?_, ⟨_, _, _, _, _, _, _, _, H9.out⟩, HR9.out⟩
        have hy := HY.out
        subst hy
        exact .new HALL.out at_ l' (by rw [HC.out, HQ.out]) L' L8 HP.out HP8.out
      · have t1 : (er != 0) = true := by simp [q]
        have HQ := Lib.hid q
        clear q
        go_wp2
        go_ret2
        exact ⟨0, 4, l', SL, UL, rfl, .none HALL.out at_ er l' HQ.out HC.out, ⟨_, _, _, _, _, _, _, _, H5.out⟩, HR5.out⟩
end
end Go.Proofs.YtflkoabgkgegjaaGreatDoor
