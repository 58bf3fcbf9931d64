/- The contract of Used. Condition: the allocator's state is held, its tiles lie as they may. -/
import Derived.Test.YtjbkkloobggjkaaDoorB9
namespace Go.Proofs.YtjbkkloobggjkaaDoor
open Go.RowKit Go.Maps
variable {W w : World} {S : List (Option Addr × List Value)} {b top : Nat} {gm gw : Nat → Nat} {mu n : Nat} {F : Nat → Nat → Bool} {U : Int → Option Nat}

/-- the used blocks met so far -/
structure Met (D : DataW Unit) (l : List Tl) (left : Lit → Bool) (L : List (Nat × Nat)) : Prop where
  apart : L.Pairwise (fun x y => x.1 ≠ y.1)
  sub : ∀ x ∈ L, x ∈ blks false 0 l ∧ left (.int .i64 ((1024 * x.1 : Nat) : Int)) = false
  all : ∀ x ∈ blks false 0 l, x ∈ L ∨ left (.int .i64 ((1024 * x.1 : Nat) : Int)) = true
  has : ∀ kl, left kl = true → Maps.has D kl = true
theorem blks_addr {f : Bool} {l : List Tl} {x y : Nat × Nat} (hx : x ∈ blks f 0 l) (hy : y ∈ blks f 0 l) (e : x.1 = y.1) : x = y := by
  obtain ⟨a, c, e1, hp1⟩ := blks_mem hx
  obtain ⟨a', c', e2, hp2⟩ := blks_mem hy
  rw [e1] at e2
  obtain ⟨_, e3, _⟩ := tile_one e2 (by omega)
  injection e3 with e4 _
  exact Prod.ext e e4
theorem Met.step {D : DataW Unit} {l : List Tl} {left : Lit → Bool} {L : List (Nat × Nat)} (h : Met D l left L) {p k : Nat} {x : Int} (hx : x = ((1024 * p : Nat) : Int)) (hp : (p, k) ∈ blks false 0 l) (hl : left (.int .i64 x) = true) :
    Met D l (fun z => left z && !z.sameKey (.int .i64 x)) (L ++ [(p, k)]) := by
  subst hx
  refine ⟨?_, fun y hy => ?_, fun y hy => ?_, fun kl hkl => ?_⟩
  · refine List.pairwise_append.2 ⟨h.apart, List.pairwise_singleton _ _, fun y hy z hz => ?_⟩
    rw [List.mem_singleton] at hz
    subst hz
    intro e
    have := (h.sub y hy).2
    simp only at e
    rw [e, hl] at this
    cases this
  · rcases List.mem_append.1 hy with hy | hy
    · obtain ⟨h1, h2⟩ := h.sub y hy
      exact ⟨h1, by simp only [h2, Bool.false_and]⟩
    · rw [List.mem_singleton] at hy
      subst hy
      exact ⟨hp, by simp only [WideAt.sameKey_self (isKey_int _), Bool.not_true, Bool.and_false]⟩
  · rcases h.all y hy with h1 | h1
    · exact .inl (List.mem_append_left _ h1)
    · by_cases e : y.1 = p
      · left
        have : y = (p, k) := blks_addr hy hp e
        subst this
        exact List.mem_append_right _ (List.mem_singleton.2 rfl)
      · right
        simp only [h1, Bool.true_and]
        rw [Maps.sameKey_ne (fun e2 => e (by injection e2 with _ e2; omega))]
        rfl
  · simp only [Bool.and_eq_true] at hkl
    exact h.has kl hkl.1
theorem Met.done {D : DataW Unit} {l : List Tl} {left : Lit → Bool} {L : List (Nat × Nat)} (h : Met D l left L) (hl : ∀ kl, left kl = false) : ∀ x, x ∈ L ↔ x ∈ blks false 0 l := fun x =>
  ⟨fun hx => (h.sub x hx).1, fun hx => by
    rcases h.all x hx with h1 | h1
    · exact h1
    · rw [hl] at h1; cases h1⟩
theorem own_ne_map {w : World} {base : Nat} {e : TypeId} {size m cap : Nat} {A : Option Addr} {xs : List Value} {D : DataW Unit} (h : w.ownsRow base e size (.slice A m cap) m xs) (ho : w.ownsMap Tryd.prog 3 (plainElem Tryd.prog 3) mu n D) : some mu ≠ Value.ownBlock (.slice A m cap) := by
  rcases h.2 with ⟨hv, _⟩ | ⟨g, cap', cur, hv, hg, hh, _⟩
  · rw [hv]; simp [Value.ownBlock]
  · rw [hv]
    intro e
    simp only [Value.ownBlock, Option.some.injEq] at e
    obtain ⟨es, cl, h1, _⟩ := ho
    rw [e, hh] at h1
    injection h1 with h1
    cases h1
theorem own_ne_low {w : World} {base : Nat} {e : TypeId} {size m cap r : Nat} {A : Option Addr} {xs : List Value} (h : w.ownsRow base e size (.slice A m cap) m xs) (hr : r < base) : some r ≠ Value.ownBlock (.slice A m cap) := by
  rcases h.2 with ⟨hv, _⟩ | ⟨g, cap', cur, hv, hg, hh, _⟩
  · rw [hv]; simp [Value.ownBlock]
  · rw [hv]
    intro e
    simp only [Value.ownBlock, Option.some.injEq] at e
    omega
set_option maxRecDepth 100000 in
set_option maxHeartbeats 3200000 in
theorem used_b (h : BSt W S w b top gm gw mu n F U) (l : List Tl) (hg : Good top l) (hU : URel U l) (hn : n < 1000) :
    Calls Tryd.prog 14 #[.pointer (some ⟨b, 0, none⟩)] w fun e w' => ∃ A m cap, e = .returned (.slice A m cap) ∧ m = (blks false 0 l).length ∧ HeldS w' (A, bCells (blks false 0 l)) ∧ Below w.heap.size w w' := by
  obtain ⟨i0, hi0, hz0, hz1, hz2⟩ := info_parts info_blk
  obtain ⟨D, ho, hh, ha⟩ := h.used
  have HO := Lib.hid ho
  have c22 := h.c22
  have ht := h.tle
  have hsz := ho.size_le
  have hall : ∀ x ∈ blks false 0 l, (Lit.int .i64 ((1024 * x.1 : Nat) : Int)).wf = true := fun x hx => WalkArith.wf_i64 (by
    have h1 := (blks_lt hx).2
    have h2 := hg.all
    have h3 : 2 ^ top ≤ 2 ^ 20 := Nat.pow_le_pow_right (by decide) ht
    have := two_pos x.2
    omega)
  have hkey : ∀ (x c : Int), (Lit.int .i64 x).wf = true → Maps.has D (.int .i64 x) = true → (∀ zd, D.atKey (.int .i64 x) zd = .lit (.int .i64 c)) → ∃ p k : Nat, x = ((1024 * p : Nat) : Int) ∧ c = (k : Int) ∧ (p, k) ∈ blks false 0 l := fun x c hx hm hat => by
    rw [hh x hx] at hm
    obtain ⟨k, hk⟩ := Option.isSome_iff_exists.1 hm
    obtain ⟨p, hp, hmem⟩ := (hU x k).1 hk
    have h2 := ha x k hx hk (.lit (.int .i64 0))
    rw [hat] at h2
    injection h2 with h2
    injection h2 with _ h2
    exact ⟨p, k, by rw [hp]; push_cast; rfl, h2, hmem⟩
  have hstart : Met D l (Maps.has D) [] := ⟨List.Pairwise.nil, fun x hx => absurd hx List.not_mem_nil, fun x hx => .inr (by
    rw [hh _ (hall x hx), (hU _ x.2).2 ⟨x.1, by push_cast; rfl, hx⟩]
    rfl), fun _ h => h⟩
  have HK := Lib.hid hkey
  have HSt := Lib.hid hstart
  clear h ho hh ha hall hkey hstart hU
  go_enter Tryd.func14, Tryd.ntmps14
  go_wp2_with (first | (at_range; refine wpList_range_own _ rfl _ 54 rfl 3 3 keyed_int Tryd.underlying54 (plainElem Tryd.prog 3) mu n D rfl HO.out ?_; intro w0 hrg0 hg0 hs0) | fail)
  go_frame
  have HRg := Lib.hid hrg0
  have HG0 : Hid (Below w.heap.size w w0) := Lib.hid ⟨hg0.os, hg0.tape, hg0.output, hg0.size, fun k hk => hg0.block k hk (by simp)⟩
  clear hrg0 hg0
  go_loopw [3] (fun o wr => ∃ (m : Nat) (A : Option Addr) (cap : Nat) (L : List (Nat × Nat)) (left : Lit → Bool) (cnt : Nat), o = .slice A m cap ∧ L.length = m ∧ wr.ownsRow (w.heap.size + 1) 44 2 (.slice A m cap) m (bCells L) ∧ wr.ranges Tryd.prog 3 (plainElem Tryd.prog 3) mu w.heap.size n D left cnt ∧ Met D l left L ∧ Below w.heap.size w wr ∧ m + cnt ≤ n) (fun _ wr => wr.rangeLeft mu w.heap.size)
  case atStart => exact ⟨0, none, 0, [], _, _, rfl, rfl, World.ownsRow_nil _ _ _ _, HRg.out, HSt.out, HG0.out, by omega⟩
  case round =>
    obtain ⟨m, A, cap, L, left, cnt, rfl, hL, hown, hrg, hmet, hb, hcnt⟩ := hrel
    have HOw := Lib.hid hown
    have HLn := Lib.hid hL
    have HRr := Lib.hid hrg
    have HMe := Lib.hid hmet
    have HB := Lib.hid hb
    have HCn := Lib.hid hcnt
    clear hown hL hrg hmet hb hcnt HRg HSt HG0 hs0
    go_wp2_with (first | (at_next; refine wpList_next_ranges_ii _ rfl _ rfl 3 3 .i64 .i64 keyed_int Tryd.underlying3 Tryd.underlying3 mu w.heap.size n _ _ _ rfl HRr.out ?_ ?_) | fail)
    · intro _ hl0
      have d1 := HMe.out.done hl0
      have HD1 := Lib.hid d1
      have hmb : m < 1073741824 := by have := HCn.out; omega
      have HMB := Lib.hid hmb
      have hle : Hid (w.heap.size + 1 ≤ wr.heap.size) := Lib.hid (by have := HRr.out.lt; omega)
      clear d1 hl0 hmb
      go_wp2_with fail
      refine (sorted_b L HMe.out.apart A cap m (w.heap.size + 1) HLn.out _ HOw.out hle.out HMB.out).mono ?_
      rintro e w' ⟨M, rfl, hp, hri, hhd, hb2⟩
      have hM : M = blks false 0 l := rises_eq hri (blks_rise false 0 l) fun x => by rw [hp.mem_iff]; exact HD1.out x
      have hlen : m = (blks false 0 l).length := by rw [← hM, hp.length_eq, HLn.out]
      rw [hM] at hhd
      have HE := Lib.hid (And.intro hlen (And.intro hhd (HB.out.trans (hb2.mono (Nat.le_succ _)))))
      clear hp hri hhd hb2 hM hlen
      go_wp2
      go_ret
      exact ⟨A, m, cap, rfl, HE.out⟩
    · intro x c w1 cnt1 hwx hwc hlx hat hrg1 hlt hg1 hs1 hen
      obtain ⟨p, k, hxp, hck, hmem⟩ := HK.out x c hwx (HMe.out.has _ hlx) hat
      have HM2 := Lib.hid (HMe.out.step hxp hmem hlx)
      have HR1 := Lib.hid hrg1
      have hb1 : Below w.heap.size w w1 := HB.out.trans (grownBy_below hg1 (Nat.le_refl _) HB.out.size)
      have HB1 := Lib.hid hb1
      have ho1 : w1.ownsRow (w.heap.size + 1) 44 2 (.slice A m cap) m (bCells L) := by
        refine ⟨HOw.out.1, ?_⟩
        rcases HOw.out.2 with h0 | ⟨g, cap', cur, hv, hg', hh', hr⟩
        · exact .inl h0
        · exact .inr ⟨g, cap', cur, hv, hg', (hg1.block g (blt hh') (fun e => by injection e; omega)).trans hh', hr⟩
      have HO1 := Lib.hid ho1
      have hcells : bCells [(p, k)] = #[Value.int .i64 x, .int .i64 c].toList := by rw [hxp, hck]; rfl
      have HC := Lib.hid hcells
      have hcn : m + 1 + cnt1 ≤ n := by have := HCn.out; omega
      have HCN := Lib.hid hcn
      have HLt := Lib.hid hlt
      clear hxp hck hmem hwx hwc hlx hat hrg1 hlt hg1 hs1 hb1 ho1 hcells hcn
      go_wp2_with (first | (at_builtin; refine wpList_app _ rfl (.tmp 18) (.tmp 22) 32 rfl (w.heap.size + 1) 44 i0 _ 2 16 Tryd.underlying32 hi0 hz0 hz1 hz2 rfl (by omega) A m cap (bCells L) rfl (HO1.out.alloc _) _ 1 1 (bCells [(p, k)]) rfl (by rfl) (by rw [HC.out]; exact SlR_new _ _ _) (bCells_one _) (by have := HCN.out; unfold maxLen; omega) (by have := HCN.out; omega) (by rw [World.size_alloc]; have := HR1.out.lt; omega) ?_; intro A3 k3 w3 hown3 hgr3 hb3; have HOW : Hid (w3.ownsRow (w.heap.size + 1) 44 2 (.slice A3 (m + 1) k3) (m + 1) (bCells (L ++ [(p, k)]))) := Lib.hid (by rw [bCells_app]; exact hown3); have HB3 : Hid (Below w.heap.size w w3) := Lib.hid ((HB1.out.alloc HB1.out.size _).trans (hb3.mono (Nat.le_succ _))); have HR3 : Hid (w3.ranges Tryd.prog 3 (plainElem Tryd.prog 3) mu w.heap.size n D (fun z => left z && !z.sameKey (.int .i64 x)) cnt1) := Lib.hid ((HR1.out.alloc _).kept hgr3 (own_ne_map HO1.out HR1.out.owns) (own_ne_low HO1.out (Nat.lt_succ_self _))); clear hown3 hgr3 hb3) | fail)
      all_goals
        exact ⟨⟨m + 1, A3, k3, L ++ [(p, k)], _, cnt1, rfl, by rw [List.length_append, HLn.out]; rfl, HOW.out, HR3.out, HM2.out, HB3.out, HCN.out⟩, by rw [HR3.out.left_eq, HRr.out.left_eq]; exact HLt.out⟩
end Go.Proofs.YtjbkkloobggjkaaDoor
