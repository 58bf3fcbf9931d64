/- The walk of BuddyCovers. Condition: the acts are read. -/
import Derived.Test.YtjbkkloobggjkaaDoorC2
import Derived.Deep.CutRange
import Derived.Deep.CutBlock
namespace Go.Proofs.YtjbkkloobggjkaaDoor
open Go.RowKit Go.Maps

theorem mod_one {i k f m : Nat} (hi : i < m) (hk : k < m) (h : (i + f) % m = (k + f) % m) : i = k := by
  have key : ∀ a b : Nat, a ≤ b → b < m → (b + f) % m = (a + f) % m → b = a := fun a b hab hb hh => by
    have h1 := Nat.sub_mod_eq_zero_of_mod_eq hh
    rw [show b + f - (a + f) = b - a by omega, Nat.mod_eq_of_lt (by omega)] at h1
    omega
  by_cases q : k ≤ i
  · exact key k i q hi h
  · exact (key i k (by omega) hk h.symm).symm
/-- the used blocks that are left, where from one on round about so many are given back -/
def LeftU (L : List (Nat × Nat)) (f k : Nat) (l : List Tl) : Prop := ∀ x, x ∈ blks false 0 l ↔ ∃ i, k ≤ i ∧ i < L.length ∧ L[(i + f) % L.length]? = some x
theorem leftU_start (f : Nat) (l : List Tl) : LeftU (blks false 0 l) f 0 l := fun x => by
  constructor
  · intro hx
    obtain ⟨j, hj, e⟩ := List.getElem_of_mem hx
    obtain ⟨m, hm⟩ : ∃ m, (blks false 0 l).length = m := ⟨_, rfl⟩
    rw [hm] at hj ⊢
    have hfm := Nat.mod_lt f (show 0 < m by omega)
    refine ⟨(j + (m - f % m)) % m, Nat.zero_le _, Nat.mod_lt _ (by omega), ?_⟩
    have e2 : ((j + (m - f % m)) % m + f) % m = j := by
      rw [Nat.mod_add_mod]
      have hd := Nat.div_add_mod f m
      have e3 : j + (m - f % m) + f = j + m * (f / m + 1) := by rw [Nat.mul_add]; omega
      rw [e3, Nat.add_mul_mod_self_left, Nat.mod_eq_of_lt hj]
    rw [e2, List.getElem?_eq_getElem (by rw [hm]; exact hj), e]
  · rintro ⟨i, _, _, hx⟩
    exact List.mem_of_getElem? hx
theorem blks_nodup {f : Bool} {l : List Tl} {i j : Nat} {x : Nat × Nat} (hi : (blks f 0 l)[i]? = some x) (hj : (blks f 0 l)[j]? = some x) : i = j := by
  have hr := blks_rise f 0 l
  unfold Rises at hr
  rw [List.pairwise_iff_getElem] at hr
  obtain ⟨hi1, hi2⟩ := List.getElem?_eq_some_iff.1 hi
  obtain ⟨hj1, hj2⟩ := List.getElem?_eq_some_iff.1 hj
  by_cases q : i < j
  · have := hr i j hi1 hj1 q
    rw [hi2, hj2] at this
    omega
  · by_cases q2 : j < i
    · have := hr j i hj1 hi1 q2
      rw [hi2, hj2] at this
      omega
    · omega
theorem leftU_step {l0 l l' : List Tl} {f k : Nat} {x : Nat × Nat} {er : Int} {top : Nat} (h : LeftU (blks false 0 l0) f k l) (hk : k < (blks false 0 l0).length) (hx : (blks false 0 l0)[(k + f) % (blks false 0 l0).length]? = some x) (hg : GiveR top l ((1024 * x.1 : Nat) : Int) er l') : er = 0 ∧ LeftU (blks false 0 l0) f (k + 1) l' := by
  have hm : x ∈ blks false 0 l := (h x).2 ⟨k, Nat.le_refl _, hk, hx⟩
  rcases hg with ⟨hg, _⟩ | ⟨o, a, c, rfl, hxa, rfl, rfl⟩
  · exact absurd hm (hg x.1 x.2 (by omega))
  · refine ⟨rfl, fun y => ?_⟩
    rw [melt_used, List.reverse_reverse, span_rev]
    have hxa2 : x.1 = span a := by omega
    have hmx := blks_at false 0 a c o
    rw [Nat.zero_add] at hmx
    have hxo : x = (span a, o) := by
      obtain ⟨a', c', e, hp⟩ := blks_mem hm
      obtain ⟨_, e2, _⟩ := tile_one e (by omega)
      obtain ⟨x1, x2⟩ := x
      simp only [Prod.mk.injEq, and_true] at *
      exact ⟨hxa2, by omega⟩
    have hy := h y
    rw [blks_same, List.mem_append, List.mem_cons] at hy
    rw [List.mem_append]
    constructor
    · intro hy1
      have hne : y ≠ x := by
        rintro rfl
        rcases hy1 with hy1 | hy1
        · have := (blks_lt hy1).2
          have := two_pos y.2
          rw [hxo] at this
          simp only [hxo] at *
          omega
        · have := (blks_lt hy1).1
          have := two_pos o
          omega
      obtain ⟨i, i1, i2, i3⟩ := hy.1 (by rcases hy1 with hy1 | hy1; exact .inl hy1; exact .inr (.inr hy1))
      refine ⟨i, ?_, i2, i3⟩
      by_cases q : k = i
      · subst q
        rw [hx] at i3
        injection i3 with i3
        exact absurd i3.symm hne
      · omega
    · rintro ⟨i, i1, i2, i3⟩
      rcases hy.2 ⟨i, by omega, i2, i3⟩ with hy1 | hy1 | hy1
      · exact .inl hy1
      · exfalso
        rw [hy1, ← hxo] at i3
        have := mod_one i2 hk (blks_nodup i3 hx)
        omega
      · exact .inr hy1
theorem leftU_end {l0 l : List Tl} {f top : Nat} (hg : Good top l) (h : LeftU (blks false 0 l0) f (blks false 0 l0).length l) : l = [(top, true)] := by
  refine good_free hg fun t ht => ?_
  cases ht2 : t.2 with
  | true => rfl
  | false =>
    obtain ⟨a, c, rfl⟩ := List.append_of_mem ht
    have hm := blks_at false 0 a c t.1
    rw [← ht2] at hm
    obtain ⟨i, i1, i2, _⟩ := (h _).1 (by rw [ht2] at hm; rw [show t = (t.1, false) by rw [← ht2]]; exact hm)
    omega
theorem run_eql_blk (w : World) : (binOp .eql 44 (.agg #[.int .i64 0, .int .i64 7]) (.agg #[.int .i64 0, .int .i64 7])).run Tryd.prog w = .ok (.bool true) w := by simp [go_sem]
set_option maxRecDepth 100000 in
theorem covers_long (A : Option Addr) (nl cap : Nat) (h : 100 < nl) (o : Int) (w : World) (hT : TabZ w) : Calls Tryd.prog 4 #[.slice A nl cap, .int .u8 o] w fun e w' => e = .returned (.bool true) ∧ Below w.heap.size w w' := by
  have i1 : (100 : Int) < (nl : Int) := by omega
  have HT := Lib.hid hT
  clear h hT
  go_enter Tryd.func4, Tryd.ntmps4
  go_wp2_with fail
  refine (alive_any _ HT.out).mono ?_
  rintro e w1 ⟨rfl, hb⟩
  have HB := Lib.hid hb
  clear hb
  go_wp2
  go_ret
  exact ⟨rfl, HB.out⟩
set_option maxRecDepth 100000 in
set_option maxHeartbeats 6400000 in
theorem covers_short (l : List (Int × Int)) (A : Option Addr) (nl cap : Nat) (hn : l.length = nl) (h : nl ≤ 100) (f : Nat) (hf : f ≤ 255) (w : World) (hT : TabZ w) (hA : SlR w A (actCells l)) : Calls Tryd.prog 4 #[.slice A nl cap, .int .u8 (f : Int)] w fun e w' => e = .returned (.bool true) ∧ Below w.heap.size w w' := by
  have i1 : (nl : Int) ≤ 100 := by omega
  have HT := Lib.hid hT
  have HA := Lib.hid hA
  have HN := Lib.hid hn
  have HF := Lib.hid hf
  obtain ⟨Fx, hFx⟩ : ∃ Fx : Int, (f : Int) = Fx := ⟨_, rfl⟩
  have HFx := Lib.hid hFx
  have zF : IntKind.i64.wrap Fx = Fx := by rw [IntKind.wrap_i64]; omega
  rw [hFx]
  clear hT hA hn h hf hFx
  go_enter Tryd.func4, Tryd.ntmps4
  go_wp2_with fail
  refine (alive_any _ HT.out).mono ?_
  rintro e w1 ⟨rfl, hb⟩
  have HB := Lib.hid hb
  have TW : Hid (TabZ w1) := Lib.hid (HT.out.below HT.out.lt hb)
  have HA1 : Hid (SlR w1 A (actCells l)) := Lib.hid (HA.out.below hb)
  clear hb
  go_wp2_with fail
  refine (new_g 131072 7 131072 rfl (by decide) (by omega) (by omega) _ TW.out).mono ?_
  rintro e w2 ⟨b, gm, gw, mu, rfl, h2⟩
  have H2 := Lib.hid h2
  clear h2
  go_wp2_with fail
  go_loopw [6] (fun i wr => ∃ (k : Nat) (tl : List Tl), k ≤ nl ∧ i = .int .i64 (k : Int) ∧ BG w1 [] wr b 7 gm gw mu k tl) (fun i _ => nl - (intOf i).toNat)
  case atStart => exact ⟨0, _, Nat.zero_le _, rfl, H2.out⟩
  case round =>
    obtain ⟨k, tl, hk, rfl, h3⟩ := hrel
    have H3 := Lib.hid h3
    clear h3 H2
    by_cases hlt : k < nl
    · have i2 : (k : Int) < (nl : Int) := by omega
      have i0 : (0 : Int) ≤ (k : Int) := by omega
      have hkl : k < l.length := by rw [HN.out]; exact hlt
      go_wp2_with fail
      refine (used_g H3.out (by omega)).mono ?_
      rintro e w4 ⟨A2, m2, cap2, rfl, hm2, h4, _⟩
      obtain ⟨ab, ao, rfl, _, c0, c1⟩ := (HA1.out.below h4.way).act hkl
      obtain ⟨x1, hx1⟩ : ∃ x1, l[k].1 = x1 := ⟨_, rfl⟩
      obtain ⟨x2, hx2⟩ : ∃ x2, l[k].2 = x2 := ⟨_, rfl⟩
      rw [hx1] at c0
      rw [hx2] at c1
      have H4 := Lib.hid h4
      have HM2 := Lib.hid hm2
      have m0 : (0 : Int) ≤ (m2 : Int) := by omega
      clear h4 hm2 hx1 hx2 H3
      go_upto_block 2 with fail
      go_cut [] from 17 to 70 (fun wx => ∃ tl' : List Tl, BG w1 [] wx b 7 gm gw mu (k + 1) tl')
      case first =>
        by_cases q0 : x1 = 0
        · have t0 : (x1 == 0) = true := by simp [q0]
          clear q0
          go_wp2_with fail
          refine (take_g H4.out TW.out x2 (by omega)).mono ?_
          rintro e w5 ⟨at_, er, tl', rfl, _, h5⟩
          have H5 := Lib.hid (h5.sub (S' := []) (fun s hs => absurd hs List.not_mem_nil))
          clear h5 c0 c1
          go_wp2
          go_meet
          exact ⟨tl', H5.out⟩
        · have t0 : (x1 == 0) = false := by simp [q0]
          have HE : Hid (BG w1 [] w4 b 7 gm gw mu (k + 1) tl) := Lib.hid ((H4.out.sub (S' := []) (fun s hs => absurd hs List.not_mem_nil)).mono (Nat.le_succ _))
          clear q0
          by_cases q1 : x2 < 0
          · have t1 : decide (0 ≤ x2) = false := decide_eq_false (by omega)
            clear q1
            go_wp2
            go_meet
            exact ⟨tl, HE.out⟩
          · have t1 : decide (0 ≤ x2) = true := decide_eq_true (by omega)
            by_cases q2 : 0 < m2
            · have t2 : (0 : Int) < (m2 : Int) := by omega
              have t3 : ¬ ((m2 : Int) = 0) := by omega
              obtain ⟨j, hj⟩ : ∃ j : Nat, j = (x2.tmod (m2 : Int)).toNat := ⟨_, rfl⟩
              have hjm := Int.emod_lt_of_pos x2 t2
              have hj0 := Int.emod_nonneg x2 t3
              have tj : x2.tmod (m2 : Int) = (j : Int) := by
                rw [Int.tmod_eq_emod_of_nonneg (by omega)] at hj ⊢
                omega
              have j0 : (0 : Int) ≤ (j : Int) := by omega
              have j1 : (j : Int) < (m2 : Int) := by
                rw [← tj, Int.tmod_eq_emod_of_nonneg (by omega)]
                exact hjm
              have hjl : j < (blks false 0 tl).length := by rw [← HM2.out]; omega
              obtain ⟨ub, uo, rfl, _, d0, d1⟩ := (H4.out.held List.mem_cons_self).sl.blk' hjl
              have hmem := List.getElem_mem hjl
              obtain ⟨X, hX⟩ : ∃ X : Int, ((1024 * ((blks false 0 tl)[j]).1 : Nat) : Int) = X := ⟨_, rfl⟩
              rw [hX] at d0
              have hwf : Hid ((Lit.int .i64 X).wf = true) := Lib.hid (WalkArith.wf_i64 (by
                have h1 := (blks_lt hmem).2
                have h2 := H4.out.good.all
                have h3 : (2 : Nat) ^ 7 = 128 := by decide
                rw [h3] at h2
                have := two_pos ((blks false 0 tl)[j]).2
                omega))
              clear hj hjm hj0 hjl hmem hX q1 q2 d1
              go_wp2_with fail
              refine (give_g H4.out X hwf.out).mono ?_
              rintro e w5 ⟨er, tl', rfl, _, h5⟩
              have H5 := Lib.hid ((h5.sub (S' := []) (fun s hs => absurd hs List.not_mem_nil)).mono (Nat.le_succ k))
              clear h5 c0 c1 d0
              go_wp2
              go_meet
              exact ⟨tl', H5.out⟩
            · have t2 : ¬ ((0 : Int) < (m2 : Int)) := by omega
              clear q1 q2
              go_wp2
              go_meet
              exact ⟨tl, HE.out⟩
      case rest =>
        obtain ⟨tl', h5⟩ := hcut
        have H5 := Lib.hid h5
        clear h5 c0 c1 H4 HM2 m0
        go_wp2_with fail
        refine (free_g H5.out TW.out).mono ?_
        rintro e w6 ⟨A6, m6, cap6, rfl, hm6, h6, _⟩
        have H6 := Lib.hid h6
        have HM6 := Lib.hid hm6
        clear h6 hm6 H5
        go_wp2_with fail
        refine (used_g H6.out (by omega)).mono ?_
        rintro e w7 ⟨A7, m7, cap7, rfl, hm7, h7, _⟩
        have H7 := Lib.hid h7
        have HM7 := Lib.hid hm7
        clear h7 hm7 H6
        go_wp2_with fail
        refine (cover_b tl' 7 (by decide) H7.out.good 131072 (by decide) A6 A7 m6 m7 cap6 cap7 HM6.out HM7.out _ (H7.out.held (List.mem_cons_of_mem _ List.mem_cons_self)).sl (H7.out.held List.mem_cons_self).sl).mono ?_
        rintro e w' ⟨rfl, rfl⟩
        have H8 := Lib.hid (H7.out.sub (S' := []) (fun s hs => absurd hs List.not_mem_nil))
        clear H7
        go_wp2
        exact ⟨⟨k + 1, tl', by omega, by go_num, H8.out⟩, by simp [intOf]; omega⟩
    · have i2 : ¬ ((k : Int) < (nl : Int)) := by omega
      have hn3 : k ≤ 100 := by omega
      clear hk hlt
      go_wp2_with fail
      refine (used_g H3.out (by omega)).mono ?_
      rintro e w4 ⟨A4, m4, cap4, rfl, hm4, h4, _⟩
      have hm4l : m4 ≤ 1048576 := by rw [hm4]; exact h4.len false
      have H4 := Lib.hid h4
      have HM4 := Lib.hid hm4
      clear h4 hm4 H3
      go_wp2_with fail
      go_loopw [9] (fun i wr => ∃ (p : Nat) (tl' : List Tl), p ≤ m4 ∧ i = .int .i64 (p : Int) ∧ BG w1 [(A4, bCells (blks false 0 tl))] wr b 7 gm gw mu k tl' ∧ LeftU (blks false 0 tl) f p tl') (fun i _ => m4 - (intOf i).toNat)
      case atStart => exact ⟨0, tl, Nat.zero_le _, rfl, H4.out, leftU_start f tl⟩
      case round =>
        obtain ⟨p, tl', hp, rfl, h5, hU⟩ := hrel
        have H5 := Lib.hid h5
        have HU := Lib.hid hU
        clear h5 hU H4
        by_cases hpm : p < m4
        · have p1 : (p : Int) < (m4 : Int) := by omega
          have p0 : (0 : Int) ≤ (p : Int) := by omega
          obtain ⟨j, hj⟩ : ∃ j : Nat, (p + f) % m4 = j := ⟨_, rfl⟩
          have hjm : j < m4 := by rw [← hj]; exact Nat.mod_lt _ (by omega)
          obtain ⟨Kx, hKx⟩ : ∃ Kx : Int, (p : Int) + Fx = Kx := ⟨_, rfl⟩
          have zK : IntKind.i64.wrap ((p : Int) + Fx) = Kx := by
            have := HF.out
            have := HFx.out
            rw [IntKind.wrap_i64]; omega
          have t3 : ¬ ((m4 : Int) = 0) := by omega
          have tj : Kx.tmod (m4 : Int) = (j : Int) := by
            have e1 : Kx = ((p + f : Nat) : Int) := by have := HFx.out; omega
            rw [e1, Int.tmod_eq_emod_of_nonneg (by omega), ← Int.natCast_emod, hj]
          have j0 : (0 : Int) ≤ (j : Int) := by omega
          have j1 : (j : Int) < (m4 : Int) := by omega
          have hjl : j < (blks false 0 tl).length := by rw [← HM4.out]; exact hjm
          obtain ⟨ub, uo, rfl, _, d0, d1⟩ := (H5.out.held List.mem_cons_self).sl.blk' hjl
          have hget : (blks false 0 tl)[(p + f) % (blks false 0 tl).length]? = some ((blks false 0 tl)[j]) := by
            rw [← HM4.out, hj]
            exact List.getElem?_eq_getElem hjl
          have HST : Hid (∀ er l', GiveR 7 tl' ((1024 * ((blks false 0 tl)[j]).1 : Nat) : Int) er l' → er = 0 ∧ LeftU (blks false 0 tl) f (p + 1) l') := Lib.hid (fun er l' hg => leftU_step HU.out (by rw [← HM4.out]; exact hpm) hget hg)
          have hwf0 : ((1024 * ((blks false 0 tl)[j]).1 : Nat) : Int) < 1073741824 := by
            have h1 := (blks_lt (List.getElem_mem hjl)).2
            have hmem2 := (HU.out _).2 ⟨p, Nat.le_refl _, by rw [← HM4.out]; exact hpm, hget⟩
            have h1 := (blks_lt hmem2).2
            have h2 := H5.out.good.all
            have h3 : (2 : Nat) ^ 7 = 128 := by decide
            rw [h3] at h2
            have := two_pos ((blks false 0 tl)[j]).2
            omega
          obtain ⟨X, hX⟩ : ∃ X : Int, ((1024 * ((blks false 0 tl)[j]).1 : Nat) : Int) = X := ⟨_, rfl⟩
          have hX0 : (0 : Int) ≤ X := by omega
          rw [hX] at d0 HST hwf0
          have hwf : Hid ((Lit.int .i64 X).wf = true) := Lib.hid (WalkArith.wf_i64 (by omega))
          clear hj hjm hKx hjl hget hX hX0 hwf0 d1 hpm
          go_wp2_with fail
          refine (give_g H5.out X hwf.out).mono ?_
          rintro e w5 ⟨er, tl2, rfl, hgr, h6⟩
          obtain ⟨rfl, hu2⟩ := HST.out er tl2 hgr
          have HU2 := Lib.hid hu2
          have H6 := Lib.hid h6
          clear h6 hu2 hgr d0 HST H5
          go_wp2
          go_roundw
          case rel => exact ⟨p + 1, tl2, by omega, by go_num, H6.out, HU2.out⟩
          case measure => (try simp [intOf]) <;> omega
        · have p1 : ¬ ((p : Int) < (m4 : Int)) := by omega
          have hend : tl' = [(7, true)] := leftU_end H5.out.good (by have := HU.out; rw [show p = m4 by omega, HM4.out] at this; exact this)
          subst hend
          clear hp hpm HU
          go_wp2_with fail
          refine (free_g H5.out TW.out).mono ?_
          rintro e w6 ⟨A6, m6, cap6, rfl, hm6, h6, _⟩
          have hm6' : m6 = 1 := by rw [hm6]; rfl
          clear hm6
          subst hm6'
          obtain ⟨ub, uo, rfl, _, d0, d1⟩ := (h6.held List.mem_cons_self).sl.blk' (k := 0) (by decide)
          have H6 := Lib.hid h6
          clear h6 H5 d0 d1
          go_wp2_with fail
          refine (alive_any _ (TW.out.below TW.out.lt H6.out.way)).mono ?_
          rintro e w7 ⟨rfl, h7⟩
          have H7 := Lib.hid (H6.out.below h7)
          clear h7 H6
          obtain ⟨d0, d1⟩ : w7.cell? ⟨ub, uo, none⟩ = some (.int .i64 0) ∧ w7.cell? ⟨ub, uo + 1, none⟩ = some (.int .i64 7) := by
            obtain ⟨ub', uo', e, _, d0, d1⟩ := (H7.out.held List.mem_cons_self).sl.blk' (k := 0) (by decide)
            cases e
            exact ⟨d0, d1⟩
          have rn := run_eql_blk
          go_wp2_with fail
          refine (used_g H7.out (by omega)).mono ?_
          rintro e w8 ⟨A8, m8, cap8, rfl, hm8, h8, _⟩
          have hm8' : m8 = 0 := by rw [hm8]; rfl
          clear hm8
          subst hm8'
          have HW := Lib.hid (HB.out.trans (h8.way.mono HB.out.size))
          clear h8 H7 d0 d1
          go_wp2
          go_ret
          exact ⟨rfl, HW.out⟩
theorem covers_any (l : List (Int × Int)) (A : Option Addr) (cap : Nat) (f : Nat) (hf : f ≤ 255) (w : World) (hT : TabZ w) (hA : SlR w A (actCells l)) : Calls Tryd.prog 4 #[.slice A l.length cap, .int .u8 (f : Int)] w fun e w' => e = .returned (.bool true) ∧ Below w.heap.size w w' := by
  by_cases h : 100 < l.length
  · exact covers_long A _ cap h f w hT
  · exact covers_short l A _ cap rfl (by omega) f hf w hT hA
end Go.Proofs.YtjbkkloobggjkaaDoor
