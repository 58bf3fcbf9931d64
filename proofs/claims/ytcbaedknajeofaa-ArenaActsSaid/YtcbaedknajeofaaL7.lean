/- The walk of ArenaActs. Condition: the acts are read. -/
import Derived.Test.YtcbaedknajeofaaProg
import Derived.Test.YtcbaedknajeofaaL6
import Derived.WalkKit
import Derived.WalkLawsBesides
import Derived.WalkSpells
import Derived.Deep.QuietTactic
import Derived.BigQuiet
import Derived.Deep.RegionHeld3
import Derived.Deep.RegionLaw
import Derived.Outline
namespace Go.Proofs.Ytcbaedknajeofaa
open Go.RowKit

set_option maxRecDepth 100000 in
set_option maxHeartbeats 1600000 in
/-- too many acts, or too long ones -/
theorem acts_few (size : Int) (l : List Actn) (A : Option Addr) (cap : Nat) (w : World) (hA : ActsR w A l) (hf : fewB size l = false) :
    Calls Try.prog 3 #[.int .i64 size, .slice A l.length cap] w fun e w' => e = .returned (.bool true) ∧ Below w.heap.size w w' := by
  have HA := Lib.hid hA
  have HF := Lib.hid hf
  clear hA hf
  go_enter Try.func3, Try.ntmps3
  go_wp2_with fail
  refine (alive_any w).mono ?_
  rintro e w1 ⟨rfl, hb1⟩
  have Hb1 := Lib.hid hb1
  clear hb1
  go_wp2_with fail
  refine (few_any size l A cap w1 (HA.out.below Hb1.out)).mono ?_
  rintro e w2 ⟨rfl, rfl⟩
  rw [HF.out]
  go_wp2_with fail
  go_ret
  exact ⟨rfl, Hb1.out⟩

set_option maxRecDepth 100000 in
set_option maxHeartbeats 1600000 in
/-- a size that may not be -/
theorem acts_no (size : Int) (l : List Actn) (A : Option Addr) (cap : Nat) (w : World) (hA : ActsR w A l) (hf : fewB size l = true) (hs : ∀ p, MayS size p → (p : Int) ≠ size) :
    Calls Try.prog 3 #[.int .i64 size, .slice A l.length cap] w fun e w' => e = .returned (.bool true) ∧ Below w.heap.size w w' := by
  have HA := Lib.hid hA
  have HF := Lib.hid hf
  have HS := Lib.hid hs
  clear hA hf hs
  have N1 : ∀ (w1 : World), Calls Try.prog 10 #[.int .i64 size] w1 fun e w' => e = .returned (.pointer none) ∧ w' = w1 := by
    intro w1
    obtain ⟨p, hp⟩ := may_ex size
    rcases may_no hp (HS.out p hp) (fewB_yes HF.out).2.1 with h | h | ⟨h1, h2, h3⟩
    · exact new_small size w1 h
    · exact new_great size w1 h
    · obtain ⟨m, rfl⟩ := Int.eq_ofNat_of_zero_le (show 0 ≤ size by omega)
      exact new_no m w1 (by omega) (by omega) (by simpa using h3)
  have N2 := Lib.hid N1
  clear N1
  go_enter Try.func3, Try.ntmps3
  go_wp2_with fail
  refine (alive_any w).mono ?_
  rintro e w1 ⟨rfl, hb1⟩
  have Hb1 := Lib.hid hb1
  clear hb1
  go_wp2_with fail
  refine (few_any size l A cap w1 (HA.out.below Hb1.out)).mono ?_
  rintro e w2 ⟨rfl, rfl⟩
  rw [HF.out]
  go_wp2_with fail
  refine (N2.out w2).mono ?_
  rintro e w3 ⟨rfl, rfl⟩
  go_wp2_with fail
  refine (may_any size w3).mono ?_
  rintro e w4 ⟨p, rfl, hp, rfl⟩
  have q1 : ((p : Int) == size) = false := by simpa using HS.out p hp
  clear hp
  go_wp2_with (first | (go_at_call 12; refine (load_nil _ _).mono ?_; rintro e w' ⟨rfl, rfl⟩) | (go_at_call 13; refine (read_bad _ _ _ _ 1 (part_nil _ _ _)).mono ?_; rintro e w' ⟨rfl, rfl⟩) | (go_at_call 14; refine (size_nil _).mono ?_; rintro e w' ⟨rfl, rfl⟩) | (go_at_call 15; refine (store_nil _ _).mono ?_; rintro e w' ⟨rfl, rfl⟩) | (go_at_call 16; refine (write_bad _ _ _ 1 _ 0 _ (part_nil _ _ _)).mono ?_; rintro e w' ⟨rfl, rfl⟩) | (go_at_call 17; refine (fill_nil _ _ _ _).mono ?_; rintro e w' ⟨rfl, rfl⟩))
  go_ret
  exact ⟨rfl, Hb1.out⟩

theorem new_l (N : Nat) (w : World) (h1 : 65536 ≤ N) (h2 : N ≤ 1073741824) (hp : pop N = 1) : Calls Try.prog 10 #[.int .i64 (N : Int)] w fun e w' => ∃ ga gb, e = .returned (.pointer (some ⟨ga, 0, none⟩)) ∧ ArAt w' ga gb N (fun _ => 0) ∧ Below w.heap.size w w' ∧ w.heap.size ≤ gb :=
  (new_yes N w h1 h2 hp).mono fun e w' q => ⟨_, _, q.1, q.2.1, q.2.2, Nat.le_refl _⟩
theorem rnew_l (N : Nat) (W w : World) (ga gb : Nat) (f : Nat → Nat) (hb : Below W.heap.size W w) (ha : ArAt w ga gb N f) (hg : W.heap.size ≤ gb) : Calls Try.prog 18 #[.int .i64 (N : Int)] w fun e w' => ∃ ra rb, e = .returned (.pointer (some ⟨ra, 0, none⟩)) ∧ Two W w' ga gb ra rb N f (fun _ => 0) :=
  (rnew_any N w ha.2.2.2.2.2).mono fun e w' q => ⟨_, _, q.1, ⟨hb.trans (q.2.2.mono hb.size), ha.below q.2.2, q.2.1, hg, hb.size, by have := ha.lt; omega, by have := ha.lt; omega, by have := ha.lt; omega⟩⟩

set_option maxRecDepth 100000 in
set_option maxHeartbeats 4000000 in
theorem acts_yes (N : Nat) (l : List Actn) (A : Option Addr) (n cap : Nat) (w : World) (hn : l.length = n) (hA : ActsR w A l) (hf : fewB N l = true) (hm : MayS N N) :
    Calls Try.prog 3 #[.int .i64 (N : Int), .slice A n cap] w fun e w' => e = .returned (.bool true) ∧ Below w.heap.size w w' := by
  have HM := Lib.hid hm
  have HA := Lib.hid hA
  have HF := Lib.hid hf
  have HN := Lib.hid hn
  have i1 : (n : Int) ≤ 60 := by have := (fewB_yes hf).1; omega
  clear hA hf hm hn
  go_enter Try.func3, Try.ntmps3
  go_wp2_with fail
  refine (alive_any w).mono ?_
  rintro e w1 ⟨rfl, hb1⟩
  have Hb1 := Lib.hid hb1
  clear hb1
  go_wp2_with fail
  have hfew := few_any N l A cap w1 (HA.out.below Hb1.out)
  rw [HF.out, HN.out] at hfew
  refine hfew.mono ?_
  clear hfew
  rintro e w2 ⟨rfl, rfl⟩
  go_wp2_with fail
  refine (new_l N w2 (may_yes HM.out rfl).1 (may_yes HM.out rfl).2.1 (may_yes HM.out rfl).2.2).mono ?_
  rintro e w3 ⟨ga, gb, rfl, ha3, hb3, hg3⟩
  have Ha3 := Lib.hid ha3
  have Hb3 : Hid (Below w.heap.size w w3) := Lib.hid (Hb1.out.trans (hb3.mono Hb1.out.size))
  have Hg3 : Hid (w.heap.size ≤ gb) := Lib.hid (Nat.le_trans Hb1.out.size hg3)
  clear ha3 hb3 hg3
  go_wp2_with fail
  refine (may_any N w3).mono ?_
  rintro e w4 ⟨p, rfl, hp, rfl⟩
  obtain rfl := may_one HM.out hp
  clear hp
  go_wp2_with fail
  refine (rnew_l N w w4 ga gb _ Hb3.out Ha3.out Hg3.out).mono ?_
  rintro e w5 ⟨ra, rb, rfl, h5⟩
  have H5 := Lib.hid h5
  clear h5 Ha3 Hb3 Hg3
  go_wp2_with fail
  go_loopw [11] (fun i wr => ∃ (k : Nat) (f : Nat → Nat), k ≤ n ∧ i = .int .i64 k ∧ Two w wr ga gb ra rb N f f) (fun i _ => n - (intOf i).toNat)
  case atStart => exact ⟨0, _, Nat.zero_le _, rfl, H5.out⟩
  case round =>
    obtain ⟨k, f, hk, rfl, h2⟩ := hrel
    have H2 := Lib.hid h2
    clear h2
    by_cases hlt : k < n
    · have hltl : k < l.length := by rw [HN.out]; exact hlt
      obtain ⟨b, off, rfl, _, c0, c1, c2, c3, c4, c5⟩ := (HA.out.below H2.out.way).at hltl
      have hx := HA.out.2.1 _ (List.getElem_mem hltl)
      have hy := (fewB_yes HF.out).2.2 k hltl
      obtain ⟨x, hxe⟩ : ∃ x, l[k] = x := ⟨_, rfl⟩
      rw [hxe] at c0 c1 c2 c3 c4 c5 hx hy
      have HX := Lib.hid hx
      have T0 := Lib.hid (Thr.new x H2.out)
      obtain ⟨a, ha⟩ : ∃ a, x.L.length = a := ⟨_, rfl⟩
      obtain ⟨d, hd⟩ : ∃ d, x.Bs.length = d := ⟨_, rfl⟩
      rw [ha] at c3 T0
      rw [hd] at c4 T0
      have HAl := Lib.hid ha
      have HDl := Lib.hid hd
      have m1 : Hid (a ≤ 1000) := Lib.hid (by omega)
      have m2 : Hid (d ≤ 1000) := Lib.hid (by omega)
      obtain ⟨EW, hEW⟩ : ∃ E, erW N x.pos 1 = E := ⟨_, rfl⟩
      obtain ⟨ES, hES⟩ : ∃ E, erW N x.pos a = E := ⟨_, rfl⟩
      obtain ⟨EB, hEB⟩ : ∃ E, erB N x.pos (d : Nat) = E := ⟨_, rfl⟩
      obtain ⟨ER, hER⟩ : ∃ E, erB N x.pos x.num = E := ⟨_, rfl⟩
      have HEW := Lib.hid hEW
      have HES := Lib.hid hES
      have HEB := Lib.hid hEB
      have HER := Lib.hid hER
      have j0 : (k : Int) < (n : Int) := by omega
      clear hx hy hxe ha hd hEW hES hEB hER HM HF Hb1 H5
      by_cases k0 : x.kind = 0
      · have t0 : (x.kind == 0) = true := by simpa using k0
        clear k0
        obtain ⟨v, hv⟩ : ∃ v, loV N f x.pos = v := ⟨_, rfl⟩
        have HV := Lib.hid hv
        clear hv
        go_wp2_with fail
        refine (thr_load HX.out v EW HV.out HEW.out T0.out).mono ?_
        rintro e w6 ⟨rfl, h6⟩
        have H6 := Lib.hid h6
        obtain ⟨_, d1, _, _, _, _⟩ := h6.cells_l HAl.out HDl.out
        clear h6
        go_wp2_with fail
        refine (thr_rload v EW HV.out HEW.out H6.out).mono ?_
        rintro e w7 ⟨rfl, h7⟩
        have H7 := Lib.hid h7
        clear h7
        go_wp2_with fail
        refine (thr_size H7.out).mono ?_
        rintro e w8 ⟨rfl, h8⟩
        have H8 := Lib.hid h8
        clear h8
        go_wp2
        exact ⟨⟨k + 1, _, by omega, by go_num, H8.out⟩, by simp [intOf]; omega⟩
      have t0 : (x.kind == 0) = false := by simpa using k0
      by_cases k1 : x.kind = 1
      · have t1 : (x.kind == 1) = true := by simpa using k1
        clear k0 k1
        have hT0 := T0.out
        have hT1 := T0.out.drew
        go_wp2_with fail
        go_region_held3 (fun w' => w'.cell? ⟨wr.heap.size, 1, none⟩ = some (.int .i64 x.pos) ∧ w'.cell? ⟨wr.heap.size, 2, none⟩ = some (.int .i64 x.num) ∧ w'.cell? ⟨wr.heap.size, 3, none⟩ = some (.slice x.A a x.ca) ∧ w'.cell? ⟨wr.heap.size, 4, none⟩ = some (.slice x.B d x.cb) ∧ w'.cell? ⟨wr.heap.size, 5, none⟩ = some (.int .u8 (x.c : Int))) (exact (Thr.cells_l HAl.out HDl.out (by assumption)).2) (first | (go_at_call 15; (with_reducible refine (thr_store HX.out ES a HAl.out m1.out HES.out (by assumption)).mono ?_); rintro e w6 ⟨rfl, h6⟩) | (go_at_call 20; (with_reducible refine (thr_rstore HX.out ES a HAl.out m1.out HES.out (by assumption)).mono ?_); rintro e w7 ⟨rfl, h7⟩))
        all_goals
          have H7 := Lib.hid (show Thr w _ ga gb ra rb N (stF N f x.pos x.L) (stF N f x.pos x.L) wr.heap.size x by assumption)
          clear hT0 hT1 h6 h7
          go_wp2_with fail
          refine (thr_size H7.out).mono ?_
          rintro e w8 ⟨rfl, h8⟩
          have H8 := Lib.hid h8
          clear h8
          go_wp2
          exact ⟨⟨k + 1, _, by omega, by go_num, H8.out⟩, by simp [intOf]; omega⟩
      have t1 : (x.kind == 1) = false := by simpa using k1
      by_cases k2 : x.kind = 2
      · have t2 : (x.kind == 2) = true := by simpa using k2
        clear k0 k1 k2
        obtain ⟨v, hv⟩ : ∃ v, reL N f x.pos x.num = v := ⟨_, rfl⟩
        obtain ⟨m, hm⟩ : ∃ m, v.length = m := ⟨_, rfl⟩
        have hml : m ≤ 1073741824 := by rw [← hm, ← hv]; exact reL_le H2.out.ar _ _
        have HV := Lib.hid hv
        have HMl := Lib.hid hm
        clear hv hm
        go_wp2_with fail
        refine (thr_read HX.out v m ER HV.out HMl.out HER.out T0.out).mono ?_
        rintro e w6 ⟨Y, y, rfl, hy6, h6⟩
        have H6 := Lib.hid h6
        have HY6 := Lib.hid hy6
        obtain ⟨_, d1, d2, _, _, _⟩ := h6.cells_l HAl.out HDl.out
        clear h6 hy6
        go_wp2_with fail
        refine (thr_rread v m ER HV.out HMl.out HER.out Y _ HY6.out H6.out).mono ?_
        rintro e w7 ⟨Z, z, rfl, hz7, hy7, h7⟩
        have H7 := Lib.hid h7
        have HZ7 := Lib.hid hz7
        have HY7 := Lib.hid hy7
        clear h7 hz7 hy7
        go_wp2_with fail
        refine (thr_same v m HMl.out (by omega) _ _ _ _ HY7.out HZ7.out H7.out).mono ?_
        rintro e w9 ⟨rfl, h9⟩
        clear H7
        have H7 := Lib.hid h9
        clear h9
        go_wp2_with fail
        refine (thr_size H7.out).mono ?_
        rintro e w8 ⟨rfl, h8⟩
        have H8 := Lib.hid h8
        clear h8
        go_wp2
        exact ⟨⟨k + 1, _, by omega, by go_num, H8.out⟩, by simp [intOf]; omega⟩
      have t2 : (x.kind == 2) = false := by simpa using k2
      by_cases k3 : x.kind = 3
      · have t3 : (x.kind == 3) = true := by simpa using k3
        clear k0 k1 k2 k3
        have hT0 := T0.out
        have hT1 := T0.out.drew
        go_wp2_with fail
        go_region_held3 (fun w' => w'.cell? ⟨wr.heap.size, 1, none⟩ = some (.int .i64 x.pos) ∧ w'.cell? ⟨wr.heap.size, 2, none⟩ = some (.int .i64 x.num) ∧ w'.cell? ⟨wr.heap.size, 3, none⟩ = some (.slice x.A a x.ca) ∧ w'.cell? ⟨wr.heap.size, 4, none⟩ = some (.slice x.B d x.cb) ∧ w'.cell? ⟨wr.heap.size, 5, none⟩ = some (.int .u8 (x.c : Int))) (exact (Thr.cells_l HAl.out HDl.out (by assumption)).2) (first | (go_at_call 16; (with_reducible refine (thr_write HX.out EB d HDl.out m2.out HEB.out (by assumption)).mono ?_); rintro e w6 ⟨rfl, h6⟩) | (go_at_call 23; (with_reducible refine (thr_rwrite HX.out EB d HDl.out HEB.out (by assumption)).mono ?_); rintro e w7 ⟨rfl, h7⟩))
        all_goals
          have H7 := Lib.hid (show Thr w _ ga gb ra rb N (wrF N f x.pos x.Bs) (wrF N f x.pos x.Bs) wr.heap.size x by assumption)
          clear hT0 hT1 h6 h7
          go_wp2_with fail
          refine (thr_size H7.out).mono ?_
          rintro e w8 ⟨rfl, h8⟩
          have H8 := Lib.hid h8
          clear h8
          go_wp2
          exact ⟨⟨k + 1, _, by omega, by go_num, H8.out⟩, by simp [intOf]; omega⟩
      have t3 : (x.kind == 3) = false := by simpa using k3
      by_cases k4 : x.kind = 4
      · have t4 : (x.kind == 4) = true := by simpa using k4
        clear k0 k1 k2 k3 k4
        have hT0 := T0.out
        have hT1 := T0.out.drew
        go_wp2_with fail
        go_region_held3 (fun w' => w'.cell? ⟨wr.heap.size, 1, none⟩ = some (.int .i64 x.pos) ∧ w'.cell? ⟨wr.heap.size, 2, none⟩ = some (.int .i64 x.num) ∧ w'.cell? ⟨wr.heap.size, 3, none⟩ = some (.slice x.A a x.ca) ∧ w'.cell? ⟨wr.heap.size, 4, none⟩ = some (.slice x.B d x.cb) ∧ w'.cell? ⟨wr.heap.size, 5, none⟩ = some (.int .u8 (x.c : Int))) (exact (Thr.cells_l HAl.out HDl.out (by assumption)).2) (first | (go_at_call 17; (with_reducible refine (thr_fill HX.out ER HER.out (by assumption)).mono ?_); rintro e w6 ⟨rfl, h6⟩) | (go_at_call 24; (with_reducible refine (thr_rfill HX.out ER HER.out (by assumption)).mono ?_); rintro e w7 ⟨rfl, h7⟩))
        all_goals
          have H7 := Lib.hid (show Thr w _ ga gb ra rb N (fiF N f x.pos x.num x.c) (fiF N f x.pos x.num x.c) wr.heap.size x by assumption)
          clear hT0 hT1 h6 h7
          go_wp2_with fail
          refine (thr_size H7.out).mono ?_
          rintro e w8 ⟨rfl, h8⟩
          have H8 := Lib.hid h8
          clear h8
          go_wp2
          exact ⟨⟨k + 1, _, by omega, by go_num, H8.out⟩, by simp [intOf]; omega⟩
      have t4 : (x.kind == 4) = false := by simpa using k4
      clear k0 k1 k2 k3 k4
      have H7 := T0
      go_wp2_with fail
      refine (thr_size H7.out).mono ?_
      rintro e w8 ⟨rfl, h8⟩
      have H8 := Lib.hid h8
      clear h8
      go_wp2
      exact ⟨⟨k + 1, _, by omega, by go_num, H8.out⟩, by simp [intOf]; omega⟩
    · have j1 : ¬ (k : Int) < (n : Int) := by omega
      clear hlt hk
      go_wp2
      go_ret
      exact ⟨rfl, H2.out.way⟩
theorem acts_any (size : Int) (l : List Actn) (A : Option Addr) (cap : Nat) (w : World) (hA : ActsR w A l) :
    Calls Try.prog 3 #[.int .i64 size, .slice A l.length cap] w fun e w' => e = .returned (.bool true) ∧ Below w.heap.size w w' := by
  cases hf : fewB size l
  · exact acts_few size l A cap w hA hf
  · obtain ⟨p, hp⟩ := may_ex size
    by_cases h : (p : Int) = size
    · subst h
      exact acts_yes p l A l.length cap w rfl hA hf hp
    · exact acts_no size l A cap w hA hf (fun q hq => by rw [may_one hq hp]; exact h)
end Go.Proofs.Ytcbaedknajeofaa
