/- The walk of MapOrder: true. Condition: the table of TrailingZeros64 holds what its text says; the bits' numbers are read. -/
import Derived.Test.YtjlgkefklklphaaDoorP0
namespace Go.Proofs.YtjlgkefklklphaaDoor
open Go.RowKit

theorem ownsRow_addr {w : World} {base : Nat} {e : TypeId} {A : Option Addr} {n cap size : Nat} {xs : List Value} (h : w.ownsRow base e size (.slice A n cap) n xs) : ∀ a, A = some a → base ≤ a.block := by
  intro a ha
  rcases h.2 with ⟨hv, _⟩ | ⟨g, cap', cur, hv, hg, _⟩
  · injection hv with h1; rw [h1] at ha; cases ha
  · injection hv with h1; rw [h1] at ha; cases ha; exact hg

/-- how the two maps and the lists lie to one another -/
structure Geo (s ga gwa gb gwb : Nat) (A : Option Addr) (l : List Int) (A2 : Option Addr) (more : List Int) : Prop where
  s1 : s ≤ gwa
  s2 : s ≤ ga
  s3 : s ≤ gwb
  s4 : s ≤ gb
  d1 : ga ≠ gwb
  d2 : gwa ≠ gwb
  d3 : gb ≠ gwa
  la : l ≠ [] → ∀ a, A = some a → a.block ≠ gwa
  lb : l ≠ [] → ∀ a, A = some a → a.block ≠ gwb
  ma : more ≠ [] → ∀ a, A2 = some a → a.block ≠ gwa
  mb : more ≠ [] → ∀ a, A2 = some a → a.block ≠ gwb
def StO (w W : World) (ga gwa gb gwb n : Nat) (av bs : List Nat) (A : Option Addr) (l : List Int) (A2 : Option Addr) (more : List Int) : Prop :=
  Below w.heap.size w W ∧ MapAt W ga gwa n av ∧ MapAt W gb gwb n bs ∧ SlR W A (i64s l) ∧ SlR W A2 (i64s more)
section
variable {w W W' : World} {ga gwa gb gwb n : Nat} {av bs : List Nat} {A A2 : Option Addr} {l more : List Int}
theorem StO.step (h : StO w W ga gwa gb gwb n av bs A l A2 more) (hb : Below W.heap.size W W') : StO w W' ga gwa gb gwb n av bs A l A2 more :=
  ⟨h.1.trans (hb.mono h.1.size), h.2.1.below hb, h.2.2.1.below hb, h.2.2.2.1.below hb, h.2.2.2.2.below hb⟩
theorem StO.alloc (h : StO w W ga gwa gb gwb n av bs A l A2 more) (o : Obj) : StO w (W.alloc o) ga gwa gb gwb n av bs A l A2 more := h.step ((Below.refl _ _).alloc (Nat.le_refl _) o)
theorem StO.setB (h : StO w W ga gwa gb gwb n av bs A l A2 more) (G : Geo w.heap.size ga gwa gb gwb A l A2 more) (hg : W.grownBy W' (some gwb)) {cs : List Nat} (hm : MapAt W' gb gwb n cs) : StO w W' ga gwa gb gwb n av cs A l A2 more :=
  ⟨h.1.trans (grownBy_below hg G.s3 h.1.size), h.2.1.grown hg G.d1 G.d2, hm, h.2.2.2.1.grownI hg G.lb, h.2.2.2.2.grownI hg G.mb⟩
theorem StO.setA (h : StO w W ga gwa gb gwb n av bs A l A2 more) (G : Geo w.heap.size ga gwa gb gwb A l A2 more) (hg : W.grownBy W' (some gwa)) {cs : List Nat} (hm : MapAt W' ga gwa n cs) : StO w W' ga gwa gb gwb n cs bs A l A2 more :=
  ⟨h.1.trans (grownBy_below hg G.s1 h.1.size), hm, h.2.2.1.grown hg G.d3 G.d2.symm, h.2.2.2.1.grownI hg G.la, h.2.2.2.2.grownI hg G.ma⟩
end

theorem drop_rev (l : List Int) (k : Nat) (hk : k < l.length) : (l.drop k).reverse = (l.drop (k + 1)).reverse ++ [l[k]] := by
  rw [List.drop_eq_getElem_cons hk, List.reverse_cons]

set_option maxRecDepth 100000 in
set_option maxHeartbeats 3200000 in
theorem morder_short (n : Nat) (l more : List Int) (m m2 : Nat) (hm : l.length = m) (hm2 : more.length = m2) (A A2 : Option Addr) (cap cap2 : Nat) (w : World) (hn : (n : Int) ≤ 3000) (hT : TabZ w) (hA : SlR w A (i64s l)) (hA2 : SlR w A2 (i64s more)) (hl : (m : Int) ≤ 200) (hq2 : (m2 : Int) ≤ 200) :
    Calls Tryd.prog 5 #[.int .u16 (n : Int), .slice A m cap, .slice A2 m2 cap2] w fun e w' => e = .returned (.bool true) ∧ Below w.heap.size w w' := by
  obtain ⟨i0, hi0, hz0, hz1, hz2⟩ := info_parts info_int
  have HT := Lib.hid hT
  have HA := Lib.hid hA
  have HA2 := Lib.hid hA2
  have Hm := Lib.hid hm
  have Hm2 := Lib.hid hm2
  have hlt := hT.lt
  have n9 : (0 : Int) ≤ (n : Int) := by omega
  clear hT hA hA2 hm hm2
  go_enter Tryd.func5, Tryd.ntmps5
  go_wp2_with fail
  refine (alive_any _ HT.out).mono ?_
  rintro e w1 ⟨rfl, hb1⟩
  have hs1 := hb1.size
  have Hb1 := Lib.hid hb1
  clear hb1
  go_wp2_with fail
  refine (new_lit n (n : Int) rfl _ (by omega)).mono ?_
  rintro e w2 ⟨rfl, hm2, hb2⟩
  have hl2 := hm2.lt
  have HM2 := Lib.hid hm2
  have Hb2 := Lib.hid (Hb1.out.trans (hb2.mono hs1))
  have hs2 := hb2.size
  clear hm2 hb2
  go_wp2_with fail
  refine (new_lit n (n : Int) rfl _ (by omega)).mono ?_
  rintro e w3 ⟨rfl, hm3, hb3⟩
  have hl3 := hm3.lt
  have hs3 := hb3.size
  obtain ⟨ga, hga⟩ : ∃ ga, ga = w1.heap.size + 1 := ⟨_, rfl⟩
  obtain ⟨gwa, hgwa⟩ : ∃ gwa, gwa = w1.heap.size := ⟨_, rfl⟩
  obtain ⟨gb, hgb⟩ : ∃ gb, gb = w2.heap.size + 1 := ⟨_, rfl⟩
  obtain ⟨gwb, hgwb⟩ : ∃ gwb, gwb = w2.heap.size := ⟨_, rfl⟩
  rw [← hga, ← hgwa] at hl2
  have HG : Hid (Geo w.heap.size ga gwa gb gwb A l A2 more) := Lib.hid ⟨by omega, by omega, by omega, by omega, by omega, by omega, by omega, HA.out.ne (by omega), HA.out.ne (by omega), HA2.out.ne (by omega), HA2.out.ne (by omega)⟩
  obtain ⟨Z, hZ⟩ : ∃ Z, List.replicate ((n + 63) / 64) 0 = Z := ⟨_, rfl⟩
  have HZ : Hid (WF n Z) := Lib.hid (by rw [← hZ]; exact WF_new n)
  have hst3 : StO w w3 ga gwa gb gwb n Z Z A l A2 more := by
    have hb : Below w.heap.size w w3 := Hb2.out.trans (hb3.mono Hb2.out.size)
    refine ⟨hb, ?_, ?_, (HA.out.below hb), (HA2.out.below hb)⟩
    · rw [hga, hgwa, ← hZ]; exact HM2.out.below hb3
    · rw [hgb, hgwb, ← hZ]; exact hm3
  have St3 := Lib.hid hst3
  have hlw : gwa < w3.heap.size ∧ gwb < w3.heap.size := by omega
  rw [← hga, ← hgb]
  clear hst3 hm3 hb3 HM2 Hb2 Hb1 hZ hga hgwa hgb hgwb
  obtain ⟨av, has⟩ : ∃ av, setL true n Z l = av := ⟨_, rfl⟩
  obtain ⟨ca, hca⟩ : ∃ c : Int, ((cntL true n Z l : Nat) : Int) = c := ⟨_, rfl⟩
  have Has := Lib.hid has
  clear has
  go_wp2_with fail
  refine (set_lit true l m Hm.out _ _ _ _ gwa n Z av ca Has.out hca St3.out.2.1 St3.out.2.2.2.1 HG.out.la (by omega)).mono ?_
  rintro e w4 ⟨rfl, hm4, hg4⟩
  have St4 := Lib.hid (St3.out.setA HG.out hg4 hm4)
  have hs4 := hg4.size
  clear hm4 hg4 St3 hca
  go_wp2_with fail
  go_loopw [9] (fun i wr => ∃ k : Nat, k ≤ m ∧ i = .int .i64 ((k : Int) - 1) ∧ StO w wr ga gwa gb gwb n av (setL true n Z (l.drop k).reverse) A l A2 more ∧ w4.heap.size ≤ wr.heap.size) (fun i _ => (intOf i + 1).toNat)
  case atStart => exact ⟨m, Nat.le_refl _, rfl, by rw [List.drop_of_length_le (by rw [Hm.out]; exact Nat.le_refl _)]; exact St4.out, Nat.le_refl _⟩
  case round =>
    obtain ⟨k, hk, rfl, hst, hsr⟩ := hrel
    have St := Lib.hid hst
    clear hst
    cases k with
    | succ k =>
      rw [show ((k + 1 : Nat) : Int) - 1 = (k : Int) by omega]
      have hkl : k < l.length := by rw [Hm.out]; omega
      obtain ⟨b, off, rfl, hx⟩ := St.out.2.2.2.1.int hkl
      have i1 : (k : Int) < (m : Int) := by omega
      have i2 : (0 : Int) ≤ (k : Int) := by omega
      obtain ⟨vs, hvs⟩ : ∃ vs, setL true n (setL true n Z (l.drop (k + 1)).reverse) [l[k]] = vs := ⟨_, rfl⟩
      obtain ⟨c, hc⟩ : ∃ c : Int, ((cntL true n (setL true n Z (l.drop (k + 1)).reverse) [l[k]] : Nat) : Int) = c := ⟨_, rfl⟩
      have Hvs := Lib.hid hvs
      have Hc := Lib.hid hc
      have Hvs2 : Hid (setL true n Z (l.drop k).reverse = vs) := Lib.hid (by rw [drop_rev l k hkl, setL_snoc, ← hvs]; rfl)
      clear hvs hc
      go_wp2_with fail
      refine (set_lit true [l[k]] 1 rfl _ _ _ _ gwb n _ vs c Hvs.out Hc.out (St.out.alloc _).2.2.1 (SlR_new _ _ _) (by intro _ a ha; cases ha; show wr.heap.size ≠ gwb; omega) (by omega)).mono ?_
      rintro e w5 ⟨rfl, hm5, hg5⟩
      have St5 := Lib.hid ((St.out.alloc _).setB HG.out hg5 hm5)
      have hs5 : w4.heap.size ≤ w5.heap.size := by have := hg5.size; simp at this; omega
      clear hm5 hg5
      go_wp2_with fail
      go_roundw
      case rel => exact ⟨k, by omega, by go_num, by rw [Hvs2.out]; exact St5.out, hs5⟩
      case measure => simp [intOf]; try omega
    | zero =>
      rw [show ((0 : Nat) : Int) - 1 = -1 by rfl]
      obtain ⟨bs, hbs⟩ : ∃ bs, setL true n Z l.reverse = bs := ⟨_, rfl⟩
      have hab : av = bs := by
        rw [← Has.out, ← hbs]
        exact same_words (WF_setL _ HZ.out) (WF_setL _ HZ.out) fun j _ => (bit_rev HZ.out l j).symm
      subst hab
      have St6 : Hid (StO w wr ga gwa gb gwb n av av A l A2 more) := Lib.hid (by have := St.out; rw [List.drop_zero, hbs] at this; exact this)
      have HW : Hid (WF n av) := Lib.hid St6.out.2.1.2.2.1
      clear St hbs
      rename World => wa
      go_wp2_with fail
      have Sta := St6
      clear St6
      have hwa := Sta.out.1.size
      go_loopw [10, 11] (fun v i wr => ∃ (k mf : Nat) (F : Option Addr) (cf : Nat), k ≤ m2 ∧ i = .int .i64 k ∧ v = .slice F mf cf ∧ mf = ((more.take k).filter fun i => !getB n av i).length ∧
          wr.ownsRow wa.heap.size 3 1 (.slice F mf cf) mf (i64s ((more.take k).filter fun i => !getB n av i)) ∧ Below wa.heap.size wa wr) (fun _ i _ => m2 - (intOf i).toNat)
      case atStart => exact ⟨0, 0, none, 0, Nat.zero_le _, by go_num, rfl, rfl, World.ownsRow_nil _ _ _ _, Below.refl _ _⟩
      case round =>
        obtain ⟨k, mf, F, cf, hk, rfl, rfl, hmf, hown, hbr⟩ := hrel
        have Hmf := Lib.hid hmf
        have Hown := Lib.hid hown
        have Hbr := Lib.hid hbr
        have St := Lib.hid (Sta.out.step hbr)
        have hmf2 : mf ≤ k := by
          rw [hmf]
          exact Nat.le_trans (List.length_filter_le _ _) (by rw [List.length_take]; omega)
        clear hmf hown hbr
        by_cases hlt : k < m2
        · have hkl : k < more.length := by rw [Hm2.out]; exact hlt
          obtain ⟨b, off, rfl, hx⟩ := St.out.2.2.2.2.int hkl
          have i1 : (k : Int) < (m2 : Int) := by omega
          have i2 : (0 : Int) ≤ (k : Int) := by omega
          cases hgb : getB n av more[k]
          · have Hg := Lib.hid hgb
            clear hgb
            have Hf : Hid ((more.take (k + 1)).filter (fun i => !getB n av i) = (more.take k).filter (fun i => !getB n av i) ++ [more[k]]) := Lib.hid (by rw [List.take_succ_eq_append_getElem hkl, List.filter_append]; simp [Hg.out])
            go_wp2_with (first | (go_at_call 12; refine (get_lit _ gb gwb n av more[k] false Hg.out St.out.2.2.1).mono ?_; rintro e w5 ⟨rfl, rfl⟩) | (at_builtin; refine wpList_app _ rfl (.tmp 63) (.tmp 68) 27 rfl wa.heap.size 3 i0 _ 1 8 Tryd.underlying27 hi0 hz0 hz1 hz2 rfl (by omega) _ _ _ _ rfl (Hown.out.alloc _) _ 1 1 (i64s [more[k]]) rfl rfl (SlR_new _ _ _) (i64s_one _) (by unfold maxLen; omega) (by omega) (by have := Hbr.out.size; simp; omega) ?_; intro A7 cap7 w7 hown7 hgr7 hb7))
            go_roundw
            case rel => exact ⟨k + 1, mf + 1, A7, cap7, by omega, by go_num, rfl, by rw [Hf.out, List.length_append, ← Hmf.out]; rfl, by rw [Hf.out, i64s_append]; exact hown7, (Hbr.out.alloc Hbr.out.size _).trans hb7⟩
            case measure => simp [intOf]; try omega
          · have Hg := Lib.hid hgb
            clear hgb
            have Hf : Hid ((more.take (k + 1)).filter (fun i => !getB n av i) = (more.take k).filter (fun i => !getB n av i)) := Lib.hid (by rw [List.take_succ_eq_append_getElem hkl, List.filter_append]; simp [Hg.out])
            go_wp2_with (go_at_call 12; refine (get_lit _ gb gwb n av more[k] true Hg.out St.out.2.2.1).mono ?_; rintro e w5 ⟨rfl, rfl⟩)
            go_roundw
            case rel => exact ⟨k + 1, mf, F, cf, by omega, by go_num, rfl, by rw [Hf.out]; exact Hmf.out, by rw [Hf.out]; exact Hown.out, Hbr.out⟩
            case measure => simp [intOf]; try omega
        · have hkm : k = m2 := by omega
          obtain ⟨fr, hfr⟩ : ∃ fr, (more.filter fun i => !getB n av i) = fr := ⟨_, rfl⟩
          have hfk : ((more.take k).filter fun i => !getB n av i) = fr := by rw [List.take_of_length_le (by rw [Hm2.out]; omega)]; exact hfr
          have Hmf2 : Hid (fr.length = mf) := Lib.hid (by rw [← hfk]; exact Hmf.out.symm)
          have Hown2 : Hid (wr.ownsRow wa.heap.size 3 1 (.slice F mf cf) mf (i64s fr)) := Lib.hid (by rw [← hfk]; exact Hown.out)
          obtain ⟨bv, hbv⟩ : ∃ bv, setL true n av more = bv := ⟨_, rfl⟩
          obtain ⟨c, hc⟩ : ∃ c : Int, ((cntL true n av more : Nat) : Int) = c := ⟨_, rfl⟩
          have hback : setL false n bv fr = av := by rw [← hbv, ← hfr]; exact order_back HW.out more
          have hcnt : ((cntL false n bv fr : Nat) : Int) = c := by rw [← hbv, ← hfr, ← order_count HW.out more]; exact hc
          have Hbv := Lib.hid hbv
          have Hc := Lib.hid hc
          have Hback := Lib.hid hback
          have Hcnt := Lib.hid hcnt
          have hgw : gwb < wa.heap.size := Sta.out.2.2.1.lt.2
          have Hfa : Hid (fr ≠ [] → ∀ a, F = some a → a.block ≠ gwb) := Lib.hid (fun _ a ha => by have := ownsRow_addr Hown2.out a ha; omega)
          clear hfr hfk hbv hc hback hcnt
          go_wp2_with fail
          refine (set_lit true more m2 Hm2.out _ _ _ _ gwb n av bv c Hbv.out Hc.out St.out.2.2.1 St.out.2.2.2.2 HG.out.mb (by omega)).mono ?_
          rintro e w8 ⟨rfl, hm8, hg8⟩
          have St8 := Lib.hid (St.out.setB HG.out hg8 hm8)
          have Hfr8 : Hid (SlR w8 F (i64s fr)) := Lib.hid ((ownsRow_sl Hown2.out).grownI hg8 Hfa.out)
          clear hm8 hg8 St
          go_wp2_with fail
          refine (set_lit false fr mf Hmf2.out _ _ _ _ gwb n bv av c Hback.out Hcnt.out St8.out.2.2.1 Hfr8.out Hfa.out (by omega)).mono ?_
          rintro e w9 ⟨rfl, hm9, hg9⟩
          have St9 := Lib.hid (St8.out.setB HG.out hg9 hm9)
          clear hm9 hg9 St8
          go_wp2_with fail
          go_loopw [12] (fun i wr => ∃ (q : Nat), q ≤ n ∧ i = .int .i64 q ∧ wr = w9) (fun i _ => n - (intOf i).toNat)
          case atStart => exact ⟨0, Nat.zero_le _, by go_num, rfl⟩
          case round =>
            obtain ⟨q, hq, rfl, rfl⟩ := hrel
            by_cases hlt3 : q < n
            · have i1 : (q : Int) < (n : Int) := by omega
              have i2 : (0 : Int) ≤ (q : Int) := by omega
              obtain ⟨r, hr⟩ : ∃ r, getB n av (q : Int) = r := ⟨_, rfl⟩
              have Hr := Lib.hid hr
              clear hr
              go_wp2_with fail
              refine (get_lit _ _ gwa n av (q : Int) r Hr.out St9.out.2.1).mono ?_
              rintro e wx ⟨rfl, rfl⟩
              go_wp2_with fail
              refine (get_lit _ _ gwb n av (q : Int) r Hr.out St9.out.2.2.1).mono ?_
              rintro e wy ⟨rfl, rfl⟩
              go_wp2_with fail
              go_roundw
              case rel => exact ⟨q + 1, by omega, by go_num, by first | rfl | trivial⟩
              case measure => simp [intOf]; try omega
            · have i1 : (n : Int) ≤ (q : Int) := by omega
              obtain ⟨c2, hc2⟩ : ∃ c2 : Int, ((popL av : Nat) : Int) = c2 := ⟨_, rfl⟩
              have Hc2 := Lib.hid hc2
              clear hc2
              go_wp2_with fail
              refine (count_lit _ _ gwa n av c2 Hc2.out St9.out.2.1).mono ?_
              rintro e wx ⟨rfl, rfl⟩
              go_wp2_with fail
              refine (count_lit _ _ gwb n av c2 Hc2.out St9.out.2.2.1).mono ?_
              rintro e wy ⟨rfl, rfl⟩
              go_wp2_with fail
              go_ret
              exact ⟨ret_bool (by simp), St9.out.1⟩
set_option maxRecDepth 100000 in
set_option maxHeartbeats 1600000 in
theorem morder_long1 (n m m2 : Nat) (A A2 : Option Addr) (cap cap2 : Nat) (w : World) (hT : TabZ w) (h1 : (200 : Int) < (m : Int)) :
    Calls Tryd.prog 5 #[.int .u16 (n : Int), .slice A m cap, .slice A2 m2 cap2] w fun e w' => e = .returned (.bool true) ∧ Below w.heap.size w w' := by
  have HT := Lib.hid hT
  clear hT
  go_enter Tryd.func5, Tryd.ntmps5
  go_wp2_with fail
  refine (alive_any _ HT.out).mono ?_
  rintro e w1 ⟨rfl, hb1⟩
  have Hb1 := Lib.hid hb1
  clear hb1
  go_wp2_with fail
  go_ret
  exact ⟨rfl, Hb1.out⟩
set_option maxRecDepth 100000 in
set_option maxHeartbeats 1600000 in
theorem morder_long2 (n m m2 : Nat) (A A2 : Option Addr) (cap cap2 : Nat) (w : World) (hT : TabZ w) (h0 : (m : Int) ≤ 200) (h1 : (200 : Int) < (m2 : Int)) :
    Calls Tryd.prog 5 #[.int .u16 (n : Int), .slice A m cap, .slice A2 m2 cap2] w fun e w' => e = .returned (.bool true) ∧ Below w.heap.size w w' := by
  have HT := Lib.hid hT
  clear hT
  go_enter Tryd.func5, Tryd.ntmps5
  go_wp2_with fail
  refine (alive_any _ HT.out).mono ?_
  rintro e w1 ⟨rfl, hb1⟩
  have Hb1 := Lib.hid hb1
  clear hb1
  go_wp2_with fail
  go_ret
  exact ⟨rfl, Hb1.out⟩
set_option maxRecDepth 100000 in
set_option maxHeartbeats 1600000 in
theorem morder_long3 (n m m2 : Nat) (A A2 : Option Addr) (cap cap2 : Nat) (w : World) (hT : TabZ w) (h0 : (m : Int) ≤ 200) (h1 : (m2 : Int) ≤ 200) (h2 : (3000 : Int) < (n : Int)) :
    Calls Tryd.prog 5 #[.int .u16 (n : Int), .slice A m cap, .slice A2 m2 cap2] w fun e w' => e = .returned (.bool true) ∧ Below w.heap.size w w' := by
  have HT := Lib.hid hT
  clear hT
  go_enter Tryd.func5, Tryd.ntmps5
  go_wp2_with fail
  refine (alive_any _ HT.out).mono ?_
  rintro e w1 ⟨rfl, hb1⟩
  have Hb1 := Lib.hid hb1
  clear hb1
  go_wp2_with fail
  go_ret
  exact ⟨rfl, Hb1.out⟩

theorem morder_any (n : Nat) (l more : List Int) (A A2 : Option Addr) (cap cap2 : Nat) (w : World) (_ : n ≤ 65535) (hT : TabZ w) (hA : SlR w A (i64s l)) (hA2 : SlR w A2 (i64s more)) (_ : l.length ≤ 9223372036854775807) (_ : more.length ≤ 9223372036854775807) :
    Calls Tryd.prog 5 #[.int .u16 (n : Int), .slice A l.length cap, .slice A2 more.length cap2] w fun e w' => e = .returned (.bool true) ∧ Below w.heap.size w w' := by
  by_cases h1 : (200 : Int) < (l.length : Int)
  · exact morder_long1 n _ _ A A2 cap cap2 w hT h1
  by_cases h2 : (200 : Int) < (more.length : Int)
  · exact morder_long2 n _ _ A A2 cap cap2 w hT (by omega) h2
  by_cases h3 : (3000 : Int) < (n : Int)
  · exact morder_long3 n _ _ A A2 cap cap2 w hT (by omega) (by omega) h3
  exact morder_short n l more _ _ rfl rfl A A2 cap cap2 w (by omega) hT hA hA2 (by omega) (by omega)
end Go.Proofs.YtjlgkefklklphaaDoor
