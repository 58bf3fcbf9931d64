/- The walk of UtcbActs. Condition: the acts are read. -/
import Derived.Test.YtgacfgofpanchaaProg
import Derived.Test.YtgacfgofpanchaaK23
import Derived.Test.YtgacfgofpanchaaU4
import Derived.Deep.Cut
import Derived.Deep.CutRange
import Derived.Deep.DeepCutAuto
import Derived.Deep.CutBlock
import Derived.WalkKit
import Derived.WalkLawsBesides
import Derived.WalkSpells
import Derived.Deep.QuietTactic
import Derived.BigQuiet
import Derived.Deep.RegionHeld3
import Derived.Deep.RegionLaw
import Derived.Outline
import Derived.Lib.LazyBuf
import Derived.Deep.WholeRow
namespace Go.Proofs.Ytgacfgofpanchaa
open Go.RowKit


theorem get_nil_e (W : World) : Calls Try.prog 19 #[.pointer none] W fun e w' => ∃ (A B : Option Addr) (c d : Nat), e = .returned (.agg #[.int .u64 0, .slice A 0 c, .slice B 0 d]) ∧ Below W.heap.size W w' :=
  (get_nil W).mono fun e w' ⟨A, B, c, d, he, _, _, hb, _, _⟩ => ⟨A, B, c, d, he, hb⟩
theorem same_nil (W : World) (A B : Option Addr) (c d : Nat) : Calls Try.prog 18 #[.agg #[.int .u64 0, .slice A 0 c, .slice B 0 d], .agg #[.int .u64 0, .slice none 0 0, .slice none 0 0]] W fun e w' => e = .returned (.bool true) ∧ Below W.heap.size W w' :=
  (same14_any 0 0 [] [] [] [] A none B none c 0 d 0 W (SlR.nil _ _) (SlR.nil _ _) (SlR.nil _ _) (SlR.nil _ _) (by decide) (by decide) (by decide) (by decide)).mono fun e w' q => q
theorem run_neq_wnd0 (w : World) : (binOp .neq 26 (.agg #[.int .i64 0, .int .i64 0]) (.agg #[.int .i64 0, .int .i64 0])).run Try.prog w = .ok (.bool false) w := run_neq_wnd ⟨0, 0⟩ w
theorem rel0 : Rel14 (fun _ => 0) (fun _ => 0) := fun k _ i _ => by
  unfold wd
  have : ∀ (p n : Nat), sumB (fun _ => 0) p n = 0 := fun p n => by
    induction n with
    | zero => rfl
    | succ n ih => simp [sumB, ih]
  exact this _ _
theorem Sc2.new {W w : World} {ga gb : Nat} {f : Nat → Nat} {R : List Rw} (h : Scn W w ga gb f R []) (zs : Array Value) (hz : zs = Array.replicate 64 (.int .u64 0)) : Sc2 W (w.alloc (.cells zs 56)) ga gb f R [] w.heap.size (fun _ => 0) := by
  have hb : Below w.heap.size w (w.alloc (.cells zs 56)) := (Below.refl _ _).alloc (Nat.le_refl _) _
  have hk := heap_alloc_new w (.cells zs 56)
  refine ⟨h.below hb, ⟨⟨zs, hk, by rw [hz]; simp⟩, fun i hi => ?_, fun _ => show (0 : Nat) < 18446744073709551616 by decide⟩, h.way.size, by have := h.ar.lt; omega, by have := h.ar.lt; omega, fun r hr => by have := blt (h.rows r hr).row; omega, fun s hs => absurd hs List.not_mem_nil⟩
  rw [cell_of_row _ _ i _ _ _ hk, hz]
  simp [hi]
/-- the k-th block, of both -/
structure Kth (R : List Rw) (ga g5 g6 k a bk : Nat) : Prop where
  lt : k < 2
  ha : a = atK k
  hb : (bk, blkRow ga a, 79) ∈ R
  p : ∃ P : Array Value, (g6, P, 52) ∈ R ∧ P[k]? = some (.pointer (some ⟨bk, 0, none⟩))
  q : ∃ P : Array Value, (g5, P, 51) ∈ R ∧ P[k]? = some (.int .i64 (a : Int))
theorem Kth.sub {R R' : List Rw} {ga g5 g6 k a bk : Nat} (h : Kth R ga g5 g6 k a bk) (hR : ∀ r ∈ R, r ∈ R') : Kth R' ga g5 g6 k a bk := by
  obtain ⟨P, p1, p2⟩ := h.p
  obtain ⟨Q, q1, q2⟩ := h.q
  exact ⟨h.lt, h.ha, hR _ h.hb, ⟨P, hR _ p1, p2⟩, ⟨Q, hR _ q1, q2⟩⟩
theorem Kth.c6 {W w : World} {ga gb g5 g6 g7 k a bk : Nat} {f G : Nat → Nat} {R : List Rw} {S : List Sls} (h : Kth R ga g5 g6 k a bk) (hs : Sc2 W w ga gb f R S g7 G) : w.cell? ⟨g6, k, none⟩ = some (.pointer (some ⟨bk, 0, none⟩)) := by
  obtain ⟨P, p1, p2⟩ := h.p
  rw [hs.cell p1 k, p2]
theorem Kth.c5 {W w : World} {ga gb g5 g6 g7 k a bk : Nat} {f G : Nat → Nat} {R : List Rw} {S : List Sls} (h : Kth R ga g5 g6 k a bk) (hs : Sc2 W w ga gb f R S g7 G) : w.cell? ⟨g5, k, none⟩ = some (.int .i64 (a : Int)) := by
  obtain ⟨P, p1, p2⟩ := h.q
  rw [hs.cell p1 k, p2]
theorem kth_all {R : List Rw} {ga g5 g6 b0 b1 : Nat} (h6 : (g6, #[.pointer (some ⟨b0, 0, none⟩), .pointer (some ⟨b1, 0, none⟩)], 52) ∈ R) (h1 : (b1, blkRow ga 8, 79) ∈ R) (h0 : (b0, blkRow ga 65280, 79) ∈ R) (h5 : (g5, #[.int .i64 65280, .int .i64 8], 51) ∈ R) : ∀ k, k < 2 → ∃ a bk, Kth R ga g5 g6 k a bk := fun k hk => by
  by_cases e : k = 0
  · subst e
    exact ⟨65280, b0, hk, rfl, h0, ⟨_, h6, rfl⟩, ⟨_, h5, rfl⟩⟩
  · have : k = 1 := by omega
    subst this
    exact ⟨8, b1, hk, rfl, h1, ⟨_, h6, rfl⟩, ⟨_, h5, rfl⟩⟩
section
variable {W w : World} {ga gb g7 : Nat} {f G : Nat → Nat} {R : List Rw} {S : List Sls}
theorem store_n (h : Sc2 W w ga gb f R S g7 G) (a : Nat) (P : Int) (hP : P = (a : Int)) (x : Nat) (ha : a + 8 ≤ 65536) (h8 : a % 8 = 0) (hx : x < 18446744073709551616) (t : TypeId) (cap : Nat) (f' : Nat → Nat) (hf' : f' = storeF f a [x] 8) :
    Calls Try.prog 28 #[.pointer (some ⟨ga, 0, none⟩), .int .i64 P, .slice (some ⟨w.heap.size, 0, none⟩) 1 cap] (w.alloc (.cells #[.int .u64 (x : Int)] t)) fun e w' => e = .returned (.int .i64 0) ∧ Sc2 W w' ga gb f' R S g7 G :=
  store_e (h.below ((Below.refl _ _).alloc (Nat.le_refl _) _)) a P hP x ha h8 _ cap ⟨SlR_new w _ _, fun _ a ha => by cases ha; have := h.s.ar.lt; simp only; omega⟩ hx f' hf'
theorem store_nd (h : Sc2 W w ga gb f R S g7 G) (a : Nat) (P : Int) (hP : P = (a : Int)) (x : Nat) (ha : a + 8 ≤ 65536) (h8 : a % 8 = 0) (hx : x < 18446744073709551616) (t : TypeId) (cap : Nat) (f' : Nat → Nat) (hf' : f' = storeF f a [x] 8) :
    Calls Try.prog 28 #[.pointer (some ⟨ga, 0, none⟩), .int .i64 P, .slice (some ⟨w.heap.size, 0, none⟩) 1 cap] (w.alloc (.cells #[.int .u64 (x : Int)] t)).drew fun e w' => e = .returned (.int .i64 0) ∧ Sc2 W w' ga gb f' R S g7 G :=
  store_e ((h.below ((Below.refl _ _).alloc (Nat.le_refl _) _)).drew) a P hP x ha h8 _ cap ⟨SlR.below (SlR_new w _ _) (Below.refl _ _).drew, fun _ a ha => by cases ha; have := h.s.ar.lt; simp only; omega⟩ hx f' hf'
end
theorem Scn.put2 {W w : World} {ga gb : Nat} {f : Nat → Nat} {R : List Rw} {X : Nat} {t : TypeId} (h : Scn W w ga gb f R []) (lo : W.heap.size ≤ X) (hm : (X, #[.pointer none, .pointer none], t) ∈ R) (ht : t ≠ 85) (p q : Value) (R' : List Rw) (hR : ∀ r ∈ R', r ∈ R ∧ r.2.2 ≠ t) :
    Scn W ((w.setCell ⟨X, 0, none⟩ p).setCell ⟨X, 1, none⟩ q) ga gb f ((X, #[p, q], t) :: R') [] := by
  have hg : w.grownBy ((w.setCell ⟨X, 0, none⟩ p).setCell ⟨X, 1, none⟩ q) (some X) := gb_set (gb_set (World.grownBy.refl _ _) 0 p) 1 q
  have hk := (h.rows _ hm).row
  have hn := (h.rows _ hm).ne
  simp only at hk hn
  have hk2 := heap_setCell_same _ X 1 _ _ q (heap_setCell_same w X 0 _ _ p hk)
  have hX : ∀ (b : Nat) (cs : Array Value) (u : TypeId), w.heap[b]? = some (.cells cs u (0, 0)) → u ≠ t → b ≠ X := fun b cs u hb hu e => by
    subst e
    rw [hk] at hb
    injection hb with hb
    injection hb with _ e2
    exact hu e2.symm
  refine ⟨h.way.trans (grownBy_below hg lo h.way.size), h.lo, h.ar.other hg (hX _ _ _ h.ar.1 (fun e => ht e.symm)) (fun e => hn e.symm), fun r hr => ?_, fun s hs => absurd hs List.not_mem_nil⟩
  rcases List.mem_cons.1 hr with rfl | hr
  · exact ⟨hk2, hn⟩
  · obtain ⟨h1, h2⟩ := hR r hr
    have h3 := h.rows r h1
    exact ⟨(hg.block r.1 (blt h3.row) (fun e => hX _ _ _ h3.row h2 (by injection e))).trans h3.row, h3.ne⟩
/-- a row of two pointers that a scene holds is stored -/
theorem two_store {W w : World} {ga gb : Nat} {f : Nat → Nat} {R : List Rw} {S : List Sls} {X : Nat} {t : TypeId} (h : Scn W w ga gb f R S) (hm : (X, #[.pointer none, .pointer none], t) ∈ R) (v : Value) :
    w.cell? ⟨X, 0, none⟩ = some (.pointer none) ∧ w.frozen? ⟨X, 0, none⟩ = false ∧ (w.setCell ⟨X, 0, none⟩ v).cell? ⟨X, 1, none⟩ = some (.pointer none) ∧ (w.setCell ⟨X, 0, none⟩ v).frozen? ⟨X, 1, none⟩ = false := by
  have hk := (h.rows _ hm).row
  simp only at hk
  have hk2 := heap_setCell_same w X 0 _ _ v hk
  exact ⟨cell_of_row w X 0 _ _ _ hk, frozen_of_row w X 0 _ _ hk, cell_of_row _ X 1 _ _ _ hk2, frozen_of_row _ X 1 _ _ hk2⟩
set_option maxRecDepth 100000 in
theorem acts_long (A : Option Addr) (n cap : Nat) (hn : 60 < n) (w : World) :
    Calls Try.prog 5 #[.slice A n cap] w fun e w' => e = .returned (.bool true) ∧ Below w.heap.size w w' := by
  have i8 : (60 : Int) < (n : Int) := by omega
  clear hn
  go_enter Try.func5, Try.ntmps5
  go_wp2_with fail
  refine (alive_any _).mono ?_
  rintro e w1 ⟨rfl, hb1⟩
  have H1 := Lib.hid hb1
  clear hb1
  go_wp2
  go_ret
  exact ⟨rfl, H1.out⟩
set_option maxRecDepth 100000 in
set_option maxHeartbeats 12800000 in
theorem acts_short (l : List Act14) (A : Option Addr) (nl cap : Nat) (hn : l.length = nl) (h60 : nl ≤ 60) (w : World) (hA : ActsR w A l) :
    Calls Try.prog 5 #[.slice A nl cap] w fun e w' => e = .returned (.bool true) ∧ Below w.heap.size w w' := by
  have i8 : (nl : Int) ≤ 60 := by omega
  have HN := Lib.hid hn
  have HAc := Lib.hid hA
  have HP := Lib.hid (Pre.start w [] (fun s hs => absurd hs List.not_mem_nil))
  clear hn h60 hA
  go_enter Try.func5, Try.ntmps5
  go_wp2_with fail
  refine (alive_any _).mono ?_
  rintro e w1 ⟨rfl, hb1⟩
  have H1 := Lib.hid (HP.out.below hb1)
  clear hb1 HP
  go_wp2_with fail
  refine (put_nil _ _ _ _ _ _ _ _).mono ?_
  rintro e w' ⟨rfl, rfl⟩
  go_wp2_with fail
  refine (get_nil_e _).mono ?_
  rintro e w2 ⟨Ax, Bx, cx, dx, rfl, hb⟩
  have H2 := Lib.hid (H1.out.below hb)
  clear hb H1
  go_wp2_with fail
  refine (same_nil _ _ _ _ _).mono ?_
  rintro e w3 ⟨rfl, hb⟩
  have H3 := Lib.hid (H2.out.below hb)
  clear hb H2
  go_wp2_with fail
  refine (open_nil _ _ _).mono ?_
  rintro e w4 ⟨rfl, hb⟩
  have H4 := Lib.hid (H3.out.below hb)
  clear hb H3
  go_wp2_with fail
  refine (window_nil _).mono ?_
  rintro e w5 ⟨rfl, hb⟩
  have H5 := Lib.hid (H4.out.below hb)
  clear hb H4
  have rw0 := run_neq_wnd0
  go_wp2_with fail
  clear rw0
  refine (tell_nil _ _ _).mono ?_
  rintro e w' ⟨rfl, rfl⟩
  go_wp2_with fail
  refine (at_nil _ _).mono ?_
  rintro e w' ⟨rfl, rfl⟩
  go_wp2_with fail
  refine (new_c H5.out).mono ?_
  rintro e w6 ⟨ga, gb, rfl, h6⟩
  have H6 := Lib.hid h6
  clear h6 H5
  go_wp2_with fail
  have h7 := H6.out.alloc #[.int .i64 65280, .int .i64 8] 51
  obtain ⟨g5, hg5⟩ : ∃ g5, g5 = w6.heap.size := ⟨_, rfl⟩
  obtain ⟨w7, hw7⟩ : ∃ w7, w7 = w6.alloc (.cells #[.int .i64 65280, .int .i64 8] 51) := ⟨_, rfl⟩
  rw [← hg5, ← hw7] at h7
  rw [← hg5, ← hw7]
  have H7 := Lib.hid h7
  clear h7 hg5 hw7 H6
  have KC : Hid (∀ (w' : World) (R : List Rw), Scn w w' ga gb (fun _ => 0) R [] → (g5, #[.int .i64 65280, .int .i64 8], 51) ∈ R → w'.cell? ⟨g5, 0, none⟩ = some (.int .i64 65280) ∧ w'.cell? ⟨g5, 1, none⟩ = some (.int .i64 8)) := Lib.hid (fun w' R h hm => ⟨h.cell hm 0, h.cell hm 1⟩)
  go_cut [6] from 56 to 64 (fun s6 wr => ∃ b0 b1 g6 : Nat, s6 = .pointer (some ⟨g6, 0, none⟩) ∧ Scn w wr ga gb (fun _ => 0) ((g6, #[.pointer (some ⟨b0, 0, none⟩), .pointer (some ⟨b1, 0, none⟩)], 52) :: (b1, blkRow ga 8, 79) :: (b0, blkRow ga 65280, 79) :: (g5, #[.int .i64 65280, .int .i64 8], 51) :: []) [])
  case first =>
    as_aux_lemma =>
      have hSd := H7.out.drew
      obtain ⟨c0, c1⟩ := KC.out _ _ hSd List.mem_cons_self
      have KC2 : Hid (∀ (w' : World) (R : List Rw), Scn w w' ga gb (fun _ => 0) R [] → (g5, #[.int .i64 65280, .int .i64 8], 51) ∈ R → g5 < w'.heap.size) := Lib.hid (fun w' R h hm => blt (h.rows _ hm).row)
      have n0 := KC2.out _ _ hSd List.mem_cons_self
      have n1 := KC2.out _ _ H7.out List.mem_cons_self
      obtain ⟨d0, d1⟩ := KC.out _ _ H7.out List.mem_cons_self
      go_region_law (first | (go_simp; go_at_call 23; (with_reducible refine (at_c (by first | assumption | exact Scn.alloc (by assumption) _ _ | exact (Scn.alloc H7.out _ _).drew) 65280 65280 rfl (by omega) (by omega)).mono ?_); rintro e w8 ⟨b0, rfl, h8⟩; obtain ⟨q0, q1⟩ := KC.out _ _ h8 (by repeat (first | (with_reducible exact List.mem_cons_self) | (with_reducible refine List.mem_cons_of_mem _ ?_))); have m0 := KC2.out _ _ h8 (by repeat (first | (with_reducible exact List.mem_cons_self) | (with_reducible refine List.mem_cons_of_mem _ ?_)))) | (go_simp; go_at_call 23; (with_reducible refine (at_c (by first | assumption | exact Scn.alloc (by assumption) _ _) 8 8 rfl (by omega) (by omega)).mono ?_); rintro e w9 ⟨b1, rfl, h9⟩; (first | (obtain ⟨z0, z1, z2, z3⟩ := two_store h9 (List.mem_cons_of_mem _ (List.mem_cons_of_mem _ List.mem_cons_self)) (.pointer (some ⟨b0, 0, none⟩))) | (obtain ⟨z0, z1, z2, z3⟩ := two_store h9 (List.mem_cons_of_mem _ List.mem_cons_self) (.pointer (some ⟨b0, 0, none⟩))) | skip)))
      all_goals
        go_wp2
        go_meet
        first
          | exact ⟨b0, b1, _, rfl, h9.alloc _ _⟩
          | exact ⟨b0, b1, _, rfl, h9.put2 h8.way.size (List.mem_cons_of_mem _ List.mem_cons_self) (by decide) _ _ _ (fun r hr => by
              simp only [List.mem_cons, List.not_mem_nil, or_false] at hr
              rcases hr with rfl | rfl | rfl
              · exact ⟨by simp, by simp only [ne_eq]; decide⟩
              · exact ⟨by simp, by simp only [ne_eq]; decide⟩
              · exact ⟨by simp, by simp only [ne_eq]; decide⟩)⟩
          | exact ⟨b0, b1, _, rfl, h9.put2 H7.out.way.size (List.mem_cons_of_mem _ (List.mem_cons_of_mem _ List.mem_cons_self)) (by decide) _ _ _ (fun r hr => by
              simp only [List.mem_cons, List.not_mem_nil, or_false] at hr
              rcases hr with rfl | rfl | rfl
              · exact ⟨by simp, by simp only [ne_eq]; decide⟩
              · exact ⟨by simp, by simp only [ne_eq]; decide⟩
              · exact ⟨by simp, by simp only [ne_eq]; decide⟩)⟩
  case rest =>
    obtain ⟨b0, b1, g6, rfl, h10⟩ := hcut
    have H10 := Lib.hid h10
    have q0 := h10.cell (b := g6) List.mem_cons_self 0
    have q1 := h10.cell (b := g6) List.mem_cons_self 1
    simp only [List.getElem?_toArray, List.getElem?_cons_zero, List.getElem?_cons_succ] at q0 q1
    clear h10 KC H7
    go_wp2_with fail
    refine (at_no _ ga gb 65536 _ 65288 H10.out.ar (Or.inl (by unfold outR; omega)) (by omega) (by omega)).mono ?_
    rintro e w11 ⟨rfl, hb⟩
    have h11 := H10.out.below hb
    have H11 := Lib.hid h11
    have q0 := h11.cell (b := g6) List.mem_cons_self 0
    have q1 := h11.cell (b := g6) List.mem_cons_self 1
    simp only [List.getElem?_toArray, List.getElem?_cons_zero, List.getElem?_cons_succ] at q0 q1
    clear hb h11 H10
    go_wp2_with fail
    refine (at_no _ ga gb 65536 _ 12 H11.out.ar (Or.inr (by decide)) (by omega) (by omega)).mono ?_
    rintro e w12 ⟨rfl, hb⟩
    have h12 := H11.out.below hb
    have H12 := Lib.hid h12
    have q0 := h12.cell (b := g6) List.mem_cons_self 0
    have q1 := h12.cell (b := g6) List.mem_cons_self 1
    simp only [List.getElem?_toArray, List.getElem?_cons_zero, List.getElem?_cons_succ] at q0 q1
    clear hb h12 H11
    go_wp2_with fail
    refine (at_no _ ga gb 65536 _ (-8) H12.out.ar (Or.inl (by unfold outR; omega)) (by omega) (by omega)).mono ?_
    rintro e w13 ⟨rfl, hb⟩
    have h13 := H12.out.below hb
    have H13 := Lib.hid h13
    have q0 := h13.cell (b := g6) List.mem_cons_self 0
    have q1 := h13.cell (b := g6) List.mem_cons_self 1
    simp only [List.getElem?_toArray, List.getElem?_cons_zero, List.getElem?_cons_succ] at q0 q1
    clear hb h13 H12
    go_wp2_with fail
    refine (tell_to_nil _ b0 ga gb 65536 65280 1 _ (H13.out.pb (by simp) (by omega) (by omega))).mono ?_
    rintro e w14 ⟨rfl, hb⟩
    have H14 := Lib.hid (H13.out.below hb)
    clear hb H13
    clear q0 q1
    go_upto_region 13 with fail
    go_cut [7] from 95 to 95 (fun s7 wr => ∃ g7 : Nat, s7 = .pointer (some ⟨g7, 0, none⟩) ∧ Sc2 w wr ga gb (fun _ => 0) ((g6, #[.pointer (some ⟨b0, 0, none⟩), .pointer (some ⟨b1, 0, none⟩)], 52) :: (b1, blkRow ga 8, 79) :: (b0, blkRow ga 65280, 79) :: (g5, #[.int .i64 65280, .int .i64 8], 51) :: []) [] g7 (fun _ => 0))
    case first =>
      go_wp2
      go_meet
      exact ⟨_, rfl, Sc2.new H14.out _ (by kernel_rfl)⟩
    case rest =>
      obtain ⟨g7, rfl, h15⟩ := hcut
      obtain ⟨R, hR⟩ : ∃ R : List Rw, R = (g6, #[.pointer (some ⟨b0, 0, none⟩), .pointer (some ⟨b1, 0, none⟩)], 52) :: (b1, blkRow ga 8, 79) :: (b0, blkRow ga 65280, 79) :: (g5, #[.int .i64 65280, .int .i64 8], 51) :: [] := ⟨_, rfl⟩
      rw [← hR] at h15
      have KK : Hid (∀ k, k < 2 → ∃ a bk, Kth R ga g5 g6 k a bk) := Lib.hid (kth_all (b0 := b0) (b1 := b1) (by rw [hR]; simp) (by rw [hR]; simp) (by rw [hR]; simp) (by rw [hR]; simp))
      have H15 := Lib.hid h15
      clear h15 hR H14 q0 q1
      go_wp2_with fail
      go_loopw [8] (fun i wr => ∃ (q : Nat) (f G : Nat → Nat), q ≤ nl ∧ i = .int .i64 q ∧ Sc2 w wr ga gb f R [] g7 G ∧ Rel14 f G) (fun i _ => nl - (intOf i).toNat)
      case atStart => exact ⟨0, _, _, Nat.zero_le _, rfl, H15.out, rel0⟩
      case round =>
        obtain ⟨q, f, G, hq, rfl, hs, hrl⟩ := hrel
        have HS := Lib.hid hs
        have HRL := Lib.hid hrl
        clear hrl H15
        by_cases hlt : q < nl
        · have hql : q < l.length := by rw [HN.out]; exact hlt
          obtain ⟨ba, off, rfl, _, c0, c1, c2, c3, c4, c5, c6, c7, c8⟩ := (HAc.out.below hs.s.way).at hql
          have hx := HAc.out.2.1 _ (List.getElem_mem hql)
          obtain ⟨x, hxe⟩ : ∃ x, l[q] = x := ⟨_, rfl⟩
          rw [hxe] at c0 c1 c2 c3 c4 c5 c6 c7 c8 hx
          have HX1 := Lib.hid hx.1
          have HX2 := Lib.hid hx.2.1
          have HX3 := Lib.hid hx.2.2.1
          have HX4 := Lib.hid hx.2.2.2.1
          have HX5 := Lib.hid hx.2.2.2.2.2.2.1
          obtain ⟨n, hn⟩ : ∃ n, x.m.words.length = n := ⟨_, rfl⟩
          obtain ⟨ki, hk⟩ : ∃ ki, x.m.items.length = ki := ⟨_, rfl⟩
          rw [hn] at c5
          rw [hk] at c6
          have n63 : (n : Int) ≤ 9223372036854775807 := by have := hx.2.2.2.2.1; omega
          have k63 : (ki : Int) ≤ 9223372036854775807 := by have := hx.2.2.2.2.2.1; omega
          have HNn := Lib.hid hn
          have HKk := Lib.hid hk
          have j0 : (q : Int) < (nl : Int) := by omega
          have hT := hs.alloc #[.int .i64 x.kind, .int .i64 x.bl, .int .i64 x.num, .int .u64 (x.x : Int), .int .u64 (x.m.label : Int), .slice x.A n x.ca, .slice x.B ki x.cb, .int .i64 x.w.base, .int .i64 x.w.order] 58
          obtain ⟨g8, hg8⟩ : ∃ g8, g8 = wr.heap.size := ⟨_, rfl⟩
          rw [← hg8] at hT
          obtain ⟨R', hR'⟩ : ∃ R' : List Rw, R' = (g8, #[.int .i64 x.kind, .int .i64 x.bl, .int .i64 x.num, .int .u64 (x.x : Int), .int .u64 (x.m.label : Int), .slice x.A n x.ca, .slice x.B ki x.cb, .int .i64 x.w.base, .int .i64 x.w.order], 58) :: R := ⟨_, rfl⟩
          rw [← hR'] at hT
          have HT := Lib.hid hT
          have Q8 : Hid ((g8, #[.int .i64 x.kind, .int .i64 x.bl, .int .i64 x.num, .int .u64 (x.x : Int), .int .u64 (x.m.label : Int), .slice x.A n x.ca, .slice x.B ki x.cb, .int .i64 x.w.base, .int .i64 x.w.order], 58) ∈ R') := Lib.hid (by rw [hR']; exact List.mem_cons_self)
          have Qs : Hid (∀ r ∈ R, r ∈ R') := Lib.hid (fun r hr => by rw [hR']; exact List.mem_cons_of_mem _ hr)
          clear hs hx hxe hn hk hT hR'
          by_cases h1 : 100 < n
          · have t1 : decide ((100 : Int) < (n : Int)) = true := decide_eq_true (by omega)
            clear h1
            go_wp2
            go_ret
            exact ⟨rfl, HT.out.s.way⟩
          have t1 : decide ((100 : Int) < (n : Int)) = false := decide_eq_false (by omega)
          by_cases h2 : 100 < ki
          · have t2 : decide ((100 : Int) < (ki : Int)) = true := decide_eq_true (by omega)
            clear h1 h2
            go_wp2
            go_ret
            exact ⟨rfl, HT.out.s.way⟩
          have t2 : decide ((100 : Int) < (ki : Int)) = false := decide_eq_false (by omega)
          have i1 : (n : Int) ≤ 100 := by omega
          have i2 : (ki : Int) ≤ 100 := by omega
          clear h1 h2
          go_upto_if 120 with fail
          rw [← hg8]
          clear c0 c1 c2 c3 c4 c5 c6 c7 c8
          obtain ⟨w8, hw8⟩ : ∃ w8, w8 = wr.alloc (.cells #[.int .i64 x.kind, .int .i64 x.bl, .int .i64 x.num, .int .u64 (x.x : Int), .int .u64 (x.m.label : Int), .slice x.A n x.ca, .slice x.B ki x.cb, .int .i64 x.w.base, .int .i64 x.w.order] 58) := ⟨_, rfl⟩
          have ht := HT.out
          rw [← hw8] at ht
          rw [← hw8]
          have H8 := Lib.hid ht
          clear ht hw8 hg8 HT t1 t2
          go_cut [10] (fun s10 wx => ∃ k : Nat, k < 2 ∧ s10 = .int .i64 (k : Int) ∧ wx = w8)
          case first =>
            by_cases hb : x.bl.tmod 2 = 0
            · have tb : (x.bl.tmod 2 != 0) = false := by simpa using hb
              clear hb
              go_wp2_with fail
              go_meet
              exact ⟨0, by omega, rfl, rfl⟩
            · have tb : (x.bl.tmod 2 != 0) = true := by simpa using hb
              clear hb
              go_wp2_with fail
              go_meet
              exact ⟨1, by omega, rfl, rfl⟩
          case rest =>
            obtain ⟨k, hk2, rfl, rfl⟩ := hcut
            obtain ⟨a, bk, hK⟩ := KK.out k hk2
            have HK1 := Lib.hid (hK.sub Qs.out)
            have hj2 : 1 - k < 2 := by omega
            obtain ⟨j, hj⟩ : ∃ j, j = 1 - k := ⟨_, rfl⟩
            rw [← hj] at hj2
            have zj : IntKind.i64.wrap (1 - (k : Int)) = (j : Int) := by rw [IntKind.wrap_i64]; omega
            obtain ⟨aj, bj, hJ⟩ := KK.out j hj2
            have HJ1 := Lib.hid (hJ.sub Qs.out)
            have KC : Hid (∀ (w' : World) (f G : Nat → Nat) (R2 : List Rw) (S : List Sls), Sc2 w w' ga gb f R2 S g7 G → (∀ r ∈ R', r ∈ R2) → w'.cell? ⟨g6, k, none⟩ = some (.pointer (some ⟨bk, 0, none⟩)) ∧ w'.cell? ⟨g6, j, none⟩ = some (.pointer (some ⟨bj, 0, none⟩)) ∧ w'.cell? ⟨g5, k, none⟩ = some (.int .i64 (a : Int)) ∧ w'.cell? ⟨g8, 0, none⟩ = some (.int .i64 x.kind) ∧ w'.cell? ⟨g8, 2, none⟩ = some (.int .i64 x.num) ∧ w'.cell? ⟨g8, 3, none⟩ = some (.int .u64 (x.x : Int)) ∧ w'.cell? ⟨g8, 4, none⟩ = some (.int .u64 (x.m.label : Int)) ∧ w'.cell? ⟨g8, 5, none⟩ = some (.slice x.A n x.ca) ∧ w'.cell? ⟨g8, 6, none⟩ = some (.slice x.B ki x.cb) ∧ w'.cell? ⟨g8, 7, none⟩ = some (.int .i64 x.w.base) ∧ w'.cell? ⟨g8, 8, none⟩ = some (.int .i64 x.w.order)) := Lib.hid (fun w' f G R2 S h hR => ⟨(HK1.out.sub hR).c6 h, (HJ1.out.sub hR).c6 h, (HK1.out.sub hR).c5 h, h.cell (hR _ Q8.out) 0, h.cell (hR _ Q8.out) 2, h.cell (hR _ Q8.out) 3, h.cell (hR _ Q8.out) 4, h.cell (hR _ Q8.out) 5, h.cell (hR _ Q8.out) 6, h.cell (hR _ Q8.out) 7, h.cell (hR _ Q8.out) 8⟩)
            have hk0 : (0 : Int) ≤ (k : Int) := by omega
            have hk1 : (k : Int) < 2 := by omega
            have hj0 : (0 : Int) ≤ (j : Int) := by omega
            have hj1 : (j : Int) < 2 := by omega
            have Aok := Lib.hid (atK_ok k)
            have Ajok := Lib.hid (atK_ok j)
            have EA : Hid (a = atK k) := Lib.hid hK.ha
            have EJ : Hid (aj = atK j) := Lib.hid hJ.ha
            clear hj hK hJ
            obtain ⟨q0, q1, q2, q3, q4, q5, q6, q7, q8, q9, q10⟩ := KC.out _ _ _ _ _ H8.out (fun _ h => h)
            go_upto_block 2 with fail
            go_cut [11, 12] from 123 to 216 (fun s11 s12 wx => s11 = .bool true ∧ ∃ f' G' : Nat → Nat, Sc2 w wx ga gb f' R' [] g7 G' ∧ Rel14 f' G')
            case first =>
              by_cases k0 : x.kind = 0
              · as_aux_lemma =>
                  have t0 : (x.kind == 0) = true := by simpa using k0
                  clear k0
                  obtain ⟨f', hf'⟩ : ∃ f', f' = putU f a x.m := ⟨_, rfl⟩
                  obtain ⟨G', hG'⟩ : ∃ G', G' = rPutG G (k * 32) x.m := ⟨_, rfl⟩
                  have HR2 : Hid (Rel14 f' G') := Lib.hid (by rw [hf', hG', EA.out]; exact HRL.out.put hk2 x.m HX3.out)
                  have EF := Lib.hid hf'
                  have EG := Lib.hid hG'
                  obtain ⟨er, her⟩ : ∃ er, er = putE x.m := ⟨_, rfl⟩
                  have EE : Hid (putE x.m = er) := Lib.hid her.symm
                  clear hf' hG' her
                  go_wp2_with fail
                  have hS := H8.out
                  have hSd := H8.out.drew
                  go_region_held3 (fun w' => w'.cell? ⟨g6, k, none⟩ = some (.pointer (some ⟨bk, 0, none⟩)) ∧ w'.cell? ⟨g6, j, none⟩ = some (.pointer (some ⟨bj, 0, none⟩)) ∧ w'.cell? ⟨g5, k, none⟩ = some (.int .i64 (a : Int)) ∧ w'.cell? ⟨g8, 0, none⟩ = some (.int .i64 x.kind) ∧ w'.cell? ⟨g8, 2, none⟩ = some (.int .i64 x.num) ∧ w'.cell? ⟨g8, 3, none⟩ = some (.int .u64 (x.x : Int)) ∧ w'.cell? ⟨g8, 4, none⟩ = some (.int .u64 (x.m.label : Int)) ∧ w'.cell? ⟨g8, 5, none⟩ = some (.slice x.A n x.ca) ∧ w'.cell? ⟨g8, 6, none⟩ = some (.slice x.B ki x.cb) ∧ w'.cell? ⟨g8, 7, none⟩ = some (.int .i64 x.w.base) ∧ w'.cell? ⟨g8, 8, none⟩ = some (.int .i64 x.w.order)) (exact KC.out _ _ _ _ _ (by assumption) (fun _ h => h)) (first | (go_at_call 17; (with_reducible refine (put_e (by assumption) HK1.out.hb (by rw [EA.out]; exact Aok.out.1) (by rw [EA.out]; exact Aok.out.2) x.m HX3.out er EE.out f' EF.out x.m.label rfl x.A x.B n x.ca ki x.cb HNn.out HKk.out (by omega) (Sc2.arg (by assumption) HX1.out) (Sc2.arg (by assumption) HX2.out)).mono ?_); rintro e w10 ⟨rfl, h10⟩) | (go_at_call 25; (with_reducible refine (rput_e (by assumption) (k * 32) (by omega) x.m HX3.out er EE.out G' EG.out x.m.label rfl x.A x.B n x.ca ki x.cb HNn.out HKk.out (Sc2.argK (by assumption) HX1.out) (Sc2.arg (by assumption) HX2.out)).mono ?_); rintro e w11 ⟨rfl, h11⟩))
                  all_goals
                    clear q0 q1 q2 q3 q4 q5 q6 q7 q8 q9 q10
                    go_wp2
                    go_meet
                    exact ⟨rfl, f', G', h11, HR2.out⟩
              have t0 : (x.kind == 0) = false := by simpa using k0
              by_cases k1 : x.kind = 1
              · as_aux_lemma =>
                  have t1 : (x.kind == 1) = true := by simpa using k1
                  clear k0 k1
                  obtain ⟨f', hf'⟩ : ∃ f', f' = openU f a ⟨x.w.base, x.w.order⟩ := ⟨_, rfl⟩
                  obtain ⟨G', hG'⟩ : ∃ G', G' = rOpenG G (k * 32) ⟨x.w.base, x.w.order⟩ := ⟨_, rfl⟩
                  have HR2 : Hid (Rel14 f' G') := Lib.hid (by rw [hf', hG', EA.out]; exact HRL.out.opn hk2 _)
                  have EF := Lib.hid hf'
                  have EG := Lib.hid hG'
                  obtain ⟨er, her⟩ : ∃ er, er = openE ⟨x.w.base, x.w.order⟩ := ⟨_, rfl⟩
                  have EE : Hid (openE ⟨x.w.base, x.w.order⟩ = er) := Lib.hid her.symm
                  clear hf' hG' her
                  go_wp2_with fail
                  have hS := H8.out
                  have hSd := H8.out.drew
                  go_region_held3 (fun w' => w'.cell? ⟨g6, k, none⟩ = some (.pointer (some ⟨bk, 0, none⟩)) ∧ w'.cell? ⟨g6, j, none⟩ = some (.pointer (some ⟨bj, 0, none⟩)) ∧ w'.cell? ⟨g5, k, none⟩ = some (.int .i64 (a : Int)) ∧ w'.cell? ⟨g8, 0, none⟩ = some (.int .i64 x.kind) ∧ w'.cell? ⟨g8, 2, none⟩ = some (.int .i64 x.num) ∧ w'.cell? ⟨g8, 3, none⟩ = some (.int .u64 (x.x : Int)) ∧ w'.cell? ⟨g8, 4, none⟩ = some (.int .u64 (x.m.label : Int)) ∧ w'.cell? ⟨g8, 5, none⟩ = some (.slice x.A n x.ca) ∧ w'.cell? ⟨g8, 6, none⟩ = some (.slice x.B ki x.cb) ∧ w'.cell? ⟨g8, 7, none⟩ = some (.int .i64 x.w.base) ∧ w'.cell? ⟨g8, 8, none⟩ = some (.int .i64 x.w.order)) (exact KC.out _ _ _ _ _ (by assumption) (fun _ h => h)) (first | (go_at_call 20; (with_reducible refine (open_e (by assumption) HK1.out.hb (by rw [EA.out]; exact Aok.out.1) (by rw [EA.out]; exact Aok.out.2) x.w.base x.w.order er EE.out f' EF.out).mono ?_); rintro e w10 ⟨rfl, h10⟩) | (go_at_call 26; (with_reducible refine (ropen_e (by assumption) (k * 32) (by omega) x.w.base x.w.order er EE.out G' EG.out).mono ?_); rintro e w11 ⟨rfl, h11⟩))
                  all_goals
                    clear q0 q1 q2 q3 q4 q5 q6 q7 q8 q9 q10
                    go_wp2
                    go_meet
                    exact ⟨rfl, f', G', h11, HR2.out⟩
              have t1 : (x.kind == 1) = false := by simpa using k1
              by_cases k2 : x.kind = 2
              · as_aux_lemma =>
                  have t2 : (x.kind == 2) = true := by simpa using k2
                  clear k0 k1 k2
                  obtain ⟨M, hM⟩ : ∃ M, getM (vw G (k * 32)) = M := ⟨_, rfl⟩
                  obtain ⟨T, hT⟩ : ∃ T, T = toldM x.x (getM (wd f a)) := ⟨_, rfl⟩
                  have HTT := Lib.hid hT
                  have EM : Hid (getM (wd f a) = M) := Lib.hid (by rw [← hM, EA.out]; exact (HRL.out.get hk2).symm)
                  have ETM : Hid (T = ⟨x.x, M.words, []⟩) := Lib.hid (by rw [hT, EM.out]; rfl)
                  have TOk : Hid (putOk T = true) := Lib.hid (by rw [hT]; exact toldM_ok _ _)
                  have TR : Hid (MsgR T) := Lib.hid (by
                    rw [ETM.out]
                    exact ⟨HX4.out, fun y hy => (getM_lt (vw G (k * 32)) (fun i => H8.out.q.2.2 _)).2 y (by rw [hM]; exact hy)⟩)
                  have TE : Hid (putE T = 0) := Lib.hid (by unfold putE; rw [if_pos TOk.out])
                  obtain ⟨f', hf'⟩ : ∃ f', f' = putF f aj T := ⟨_, rfl⟩
                  obtain ⟨G', hG'⟩ : ∃ G', G' = rPutG G (j * 32) T := ⟨_, rfl⟩
                  have HR2 : Hid (Rel14 f' G') := Lib.hid (by rw [hf', hG', EJ.out]; exact HRL.out.tell hj2 T TR.out TOk.out)
                  have EF := Lib.hid hf'
                  have EG := Lib.hid hG'
                  obtain ⟨lm, hlm⟩ : ∃ lm : Int, (M.label : Int) = lm := ⟨_, rfl⟩
                  obtain ⟨nw, hnw⟩ : ∃ nw, M.words.length = nw := ⟨_, rfl⟩
                  obtain ⟨nj, hnj⟩ : ∃ nj, M.items.length = nj := ⟨_, rfl⟩
                  have HMM := Lib.hid hM
                  have HLM := Lib.hid hlm
                  have HNW := Lib.hid hnw
                  have HNJ := Lib.hid hnj
                  have TL : Hid ((T.label : Int) = (x.x : Int)) := Lib.hid (by rw [ETM.out])
                  have TN : Hid (T.words.length = nw) := Lib.hid (by rw [ETM.out]; exact hnw)
                  have TI : Hid (T.items.length = 0) := Lib.hid (by rw [ETM.out]; rfl)
                  have KN0 : Hid (∀ w' : World, SlR w' none (itemCells T.items)) := Lib.hid (fun w' => by rw [ETM.out]; exact SlR.nil _ _)
                  clear hf' hG' hM hT hlm hnw hnj
                  go_wp2_with fail
                  refine (rget_e H8.out (k * 32) (by omega) M HMM.out lm HLM.out nw nj HNW.out HNJ.out).mono ?_
                  rintro e w9 ⟨Am, Bm, cm, dm, rfl, h9⟩
                  have h9a := h9.alloc #[.int .u64 lm, .slice Am nw cm, .slice Bm nj dm] 43
                  obtain ⟨g12, hg12⟩ : ∃ g12, g12 = w9.heap.size := ⟨_, rfl⟩
                  obtain ⟨w9a, hw9a⟩ : ∃ w9a, w9a = w9.alloc (.cells #[.int .u64 lm, .slice Am nw cm, .slice Bm nj dm] 43) := ⟨_, rfl⟩
                  rw [← hg12, ← hw9a] at h9a
                  have H9 := Lib.hid h9a
                  clear h9 h9a q0 q1 q2 q3 q4 q5 q6 q7 q8 q9 q10
                  go_wp2_with fail
                  rw [← hg12, ← hw9a]
                  clear hg12 hw9a
                  have hS := H9.out
                  have hSd := H9.out.drew
                  have KM : Hid (∀ (w' : World) (f G : Nat → Nat) (S : List Sls), Sc2 w w' ga gb f ((g12, #[.int .u64 lm, .slice Am nw cm, .slice Bm nj dm], 43) :: R') S g7 G → w'.cell? ⟨g6, k, none⟩ = some (.pointer (some ⟨bk, 0, none⟩)) ∧ w'.cell? ⟨g6, j, none⟩ = some (.pointer (some ⟨bj, 0, none⟩)) ∧ w'.cell? ⟨g8, 3, none⟩ = some (.int .u64 (x.x : Int)) ∧ w'.cell? ⟨g12, 1, none⟩ = some (.slice Am nw cm)) := Lib.hid (fun w' f G S h => by
                    obtain ⟨q0, q1, _, _, _, q5, _⟩ := KC.out _ _ _ _ _ h (fun _ h => List.mem_cons_of_mem _ h)
                    exact ⟨q0, q1, q5, h.cell List.mem_cons_self 1⟩)
                  go_region_held3 (fun w' => w'.cell? ⟨g6, k, none⟩ = some (.pointer (some ⟨bk, 0, none⟩)) ∧ w'.cell? ⟨g6, j, none⟩ = some (.pointer (some ⟨bj, 0, none⟩)) ∧ w'.cell? ⟨g8, 3, none⟩ = some (.int .u64 (x.x : Int)) ∧ w'.cell? ⟨g12, 1, none⟩ = some (.slice Am nw cm)) (exact KM.out _ _ _ _ (by assumption)) (first | (go_at_call 22; (with_reducible refine (tell_e (by assumption) (List.mem_cons_of_mem _ HK1.out.hb) (by rw [EA.out]; exact Aok.out.1) (by rw [EA.out]; exact Aok.out.2) (List.mem_cons_of_mem _ HJ1.out.hb) (by rw [EJ.out]; exact Ajok.out.1) (by rw [EJ.out]; exact Ajok.out.2) x.x HX4.out T HTT.out f' EF.out).mono ?_); rintro e w10 ⟨rfl, h10⟩) | (go_at_call 25; (with_reducible refine (rput_e (by assumption) (j * 32) (by omega) T TR.out 0 TE.out G' EG.out x.x TL.out Am none nw cm 0 0 TN.out TI.out (by rw [ETM.out]; exact Sc2.k0 (by assumption)) (KN0.out _)).mono ?_); rintro e w11 ⟨rfl, h11⟩))
                  all_goals
                    go_wp2
                    go_meet
                    exact ⟨rfl, f', G', h11.sub (fun _ h => List.mem_cons_of_mem _ h) (fun _ h => absurd h List.not_mem_nil), HR2.out⟩
              have t2 : (x.kind == 2) = false := by simpa using k2
              by_cases k3 : x.kind = 3
              · as_aux_lemma =>
                  have t3 : (x.kind == 3) = true := by simpa using k3
                  clear k0 k1 k2 k3
                  by_cases hn : 0 ≤ x.num
                  · have tn : decide (0 ≤ x.num) = true := decide_eq_true hn
                    obtain ⟨nn, hnn⟩ : ∃ nn : Nat, nn = (x.num.tmod 32).toNat := ⟨_, rfl⟩
                    have tm : x.num.tmod 32 = (nn : Int) := by
                      rw [Int.tmod_eq_emod_of_nonneg hn] at hnn ⊢
                      omega
                    have nn2 : (nn : Int) < 32 := by
                      rw [← tm, Int.tmod_eq_emod_of_nonneg hn]
                      omega
                    have nn0 : (0 : Int) ≤ (nn : Int) := by omega
                    have hnn2 : nn < 32 := by omega
                    obtain ⟨f', hf'⟩ : ∃ f', f' = storeF f (a + 8 * nn) [x.x] 8 := ⟨_, rfl⟩
                    obtain ⟨G', hG'⟩ : ∃ G', G' = setG G (k * 32 + nn) x.x := ⟨_, rfl⟩
                    have HR2 : Hid (Rel14 f' G') := Lib.hid (by rw [hf', hG', EA.out]; exact HRL.out.store hk2 hnn2 HX4.out)
                    have EF := Lib.hid hf'
                    have EG := Lib.hid hG'
                    have u0 := H8.out.q.2.1 (k * 32 + nn) (by omega)
                    have uf0 := H8.out.q.frozen (k * 32 + nn)
                    have h9 : Sc2 w ((wc.setCell ⟨g7, k * 32 + nn, none⟩ (.int .u64 (x.x : Int))).drew) ga gb f R' [] g7 G' := by
                      rw [hG']
                      exact (H8.out.setQ (H8.out.q.set (k * 32 + nn) x.x (by omega) HX4.out) (gb_set (World.grownBy.refl _ _) _ _)).drew
                    obtain ⟨w9, hw9⟩ : ∃ w9, w9 = (wc.setCell ⟨g7, k * 32 + nn, none⟩ (.int .u64 (x.x : Int))).drew := ⟨_, rfl⟩
                    rw [← hw9] at h9
                    have H9 := Lib.hid h9
                    have HW9 := Lib.hid hw9
                    obtain ⟨PP, hPP⟩ : ∃ PP : Int, (a : Int) + 8 * (nn : Int) = PP := ⟨_, rfl⟩
                    have aok := Aok.out
                    rw [← EA.out] at aok
                    have HA1 := Lib.hid aok.1
                    have HA2 := Lib.hid aok.2
                    have s1 : IntKind.i64.wrap (8 * (nn : Int)) = 8 * (nn : Int) := by rw [IntKind.wrap_i64]; omega
                    have s2 : IntKind.i64.wrap PP = PP := by rw [IntKind.wrap_i64]; omega
                    have HPP : Hid (PP = ((a + 8 * nn : Nat) : Int)) := Lib.hid (by omega)
                    clear hf' hG' hnn hw9 h9 aok
                    go_wp2_with fail
                    go_region_law (fail)
                    all_goals
                      clear u0 uf0
                      rw [← HW9.out]
                      clear q0 q1 q2 q3 q4 q5 q6 q7 q8 q9 q10
                      obtain ⟨q0, q1, q2, q3, q4, q5, q6, q7, q8, q9, q10⟩ := KC.out _ _ _ _ _ H9.out (fun _ h => h)
                      have hS := H9.out
                      have hSd := H9.out.drew
                      go_wp2_with fail
                      go_region_held3 (fun w' => w'.cell? ⟨g6, k, none⟩ = some (.pointer (some ⟨bk, 0, none⟩)) ∧ w'.cell? ⟨g6, j, none⟩ = some (.pointer (some ⟨bj, 0, none⟩)) ∧ w'.cell? ⟨g5, k, none⟩ = some (.int .i64 (a : Int)) ∧ w'.cell? ⟨g8, 0, none⟩ = some (.int .i64 x.kind) ∧ w'.cell? ⟨g8, 2, none⟩ = some (.int .i64 x.num) ∧ w'.cell? ⟨g8, 3, none⟩ = some (.int .u64 (x.x : Int)) ∧ w'.cell? ⟨g8, 4, none⟩ = some (.int .u64 (x.m.label : Int)) ∧ w'.cell? ⟨g8, 5, none⟩ = some (.slice x.A n x.ca) ∧ w'.cell? ⟨g8, 6, none⟩ = some (.slice x.B ki x.cb) ∧ w'.cell? ⟨g8, 7, none⟩ = some (.int .i64 x.w.base) ∧ w'.cell? ⟨g8, 8, none⟩ = some (.int .i64 x.w.order)) (first | (exact KC.out _ _ _ _ _ (by assumption) (fun _ h => h)) | (exact KC.out _ _ _ _ _ (Sc2.alloc (by assumption) _ _) (fun _ h => List.mem_cons_of_mem _ h)) | (exact KC.out _ _ _ _ _ (Sc2.alloc hS _ _).drew (fun _ h => List.mem_cons_of_mem _ h))) (first | (go_at_call 28; (with_reducible refine (store_n hSd (a + 8 * nn) PP HPP.out x.x (by have := HA1.out; omega) (by have := HA2.out; omega) HX4.out _ _ f' EF.out).mono ?_); rintro e w10 ⟨rfl, h10⟩) | (go_at_call 28; (with_reducible refine (store_nd hS (a + 8 * nn) PP HPP.out x.x (by have := HA1.out; omega) (by have := HA2.out; omega) HX4.out _ _ f' EF.out).mono ?_); rintro e w10 ⟨rfl, h10⟩))
                      all_goals
                        clear q0 q1 q2 q3 q4 q5 q6 q7 q8 q9 q10
                        go_wp2
                        go_meet
                        exact ⟨rfl, f', G', h10, HR2.out⟩
                  · have tn : decide (0 ≤ x.num) = false := decide_eq_false hn
                    clear hn
                    go_wp2
                    go_meet
                    exact ⟨rfl, f, G, H8.out, HRL.out⟩
              have t3 : (x.kind == 3) = false := by simpa using k3
              clear k0 k1 k2 k3
              go_wp2
              go_meet
              exact ⟨rfl, f, G, H8.out, HRL.out⟩
            case rest =>
              as_aux_lemma =>
                obtain ⟨rfl, f', G', h20, hr20⟩ := hcut
                have H20 := Lib.hid h20
                have HR20 := Lib.hid hr20
                clear h20 hr20 q0 q1 q2 q3 q4 q5 q6 q7 q8 q9 q10 KC H8 HRL HX1 HX2 HX3 HX4 HX5 HNn HKk zj
                go_wp2_with fail
                go_loopw [13] (fun i wr => ∃ p : Nat, p ≤ 2 ∧ i = .int .i64 p ∧ Sc2 w wr ga gb f' R' [] g7 G') (fun i _ => 2 - (intOf i).toNat)
                case atStart => exact ⟨0, Nat.zero_le _, rfl, H20.out⟩
                case round =>
                  obtain ⟨p, hp, rfl, hs⟩ := hrel
                  have HSp := Lib.hid hs
                  clear hs H20
                  by_cases hp2 : p < 2
                  · have p1 : (p : Int) < 2 := by omega
                    have p0 : (0 : Int) ≤ (p : Int) := by omega
                    obtain ⟨ap, bq, hKp⟩ := KK.out p hp2
                    have HKp := Lib.hid (hKp.sub Qs.out)
                    have Apok := atK_ok p
                    rw [← hKp.ha] at Apok
                    have HA1 := Lib.hid Apok.1
                    have HA2 := Lib.hid Apok.2
                    have RG : Hid (∀ i, i < 32 → wd f' ap i = G' (p * 32 + i)) := Lib.hid (fun i hi => by rw [hKp.ha]; exact HR20.out p hp2 i hi)
                    obtain ⟨M, hM⟩ : ∃ M, getM (wd f' ap) = M := ⟨_, rfl⟩
                    have HM := Lib.hid hM
                    have HM2 : Hid (getM (vw G' (p * 32)) = M) := Lib.hid (by rw [HR20.out.get hp2, ← hKp.ha]; exact hM)
                    obtain ⟨v, hv⟩ : ∃ v, winX (wd f' ap 2) = v := ⟨_, rfl⟩
                    have HV := Lib.hid hv
                    have HV2 : Hid (winX (vw G' (p * 32) 2) = v) := Lib.hid (by rw [HR20.out.win hp2, ← hKp.ha]; exact hv)
                    have hlen := getM_words_le (wd f' ap)
                    rw [hM] at hlen
                    obtain ⟨lm, hlm⟩ : ∃ lm : Int, (M.label : Int) = lm := ⟨_, rfl⟩
                    obtain ⟨nw, hnw⟩ : ∃ nw, M.words.length = nw := ⟨_, rfl⟩
                    obtain ⟨nj, hnj⟩ : ∃ nj, M.items.length = nj := ⟨_, rfl⟩
                    rw [hnw, hnj] at hlen
                    have w8 : nw ≤ 8 := hlen.1
                    have w2' : nj ≤ 2 := hlen.2
                    have HLM := Lib.hid hlm
                    have HNW := Lib.hid hnw
                    have HNJ := Lib.hid hnj
                    have K6 : Hid (∀ (w' : World) (S : List Sls), Sc2 w w' ga gb f' R' S g7 G' → w'.cell? ⟨g6, p, none⟩ = some (.pointer (some ⟨bq, 0, none⟩))) := Lib.hid (fun w' S h => HKp.out.c6 h)
                    have K5 : Hid (∀ (w' : World) (S : List Sls), Sc2 w w' ga gb f' R' S g7 G' → w'.cell? ⟨g5, p, none⟩ = some (.int .i64 (ap : Int))) := Lib.hid (fun w' S h => HKp.out.c5 h)
                    clear hKp Apok hM hv hlm hnw hnj hlen
                    have hS := HSp.out
                    have hSd := HSp.out.drew
                    have rn := run_neq_wnd v
                    go_wp2_with fail
                    go_region_held3 (fun w' => w'.cell? ⟨g6, p, none⟩ = some (.pointer (some ⟨bq, 0, none⟩))) (exact K6.out _ _ (by assumption)) (first | (go_at_call 19; (with_reducible refine (get_e (by assumption) HKp.out.hb HA1.out HA2.out M HM.out lm HLM.out nw nj HNW.out HNJ.out).mono ?_); rintro e w21 ⟨A1, B1, ka1, kb1, rfl, h21⟩) | (go_at_call 27; (with_reducible refine (rget_e (by assumption) (p * 32) (by omega) M HM2.out lm HLM.out nw nj HNW.out HNJ.out).mono ?_); rintro e w22 ⟨A2, B2, ka2, kb2, rfl, h22⟩) | (go_at_call 18; (with_reducible refine (same_e (by assumption) M M true (sameM_self M) lm lm HLM.out HLM.out _ _ _ _ nw nw nj nj _ _ _ _ HNW.out HNW.out HNJ.out HNJ.out (by omega) (by omega) (by omega) (by omega) (Sc2.s2 (by assumption)) (Sc2.s0 (by assumption)) (Sc2.s3 (by assumption)) (Sc2.s1 (by assumption))).mono ?_); rintro e w23 ⟨rfl, h23⟩) | (go_at_call 21; (with_reducible refine (window_e (by assumption) HKp.out.hb HA1.out HA2.out v HV.out).mono ?_); rintro e w24 ⟨rfl, h24⟩) | (go_at_call 29; (with_reducible refine (rwindow_e (by assumption) (p * 32) (by omega) v HV2.out).mono ?_); rintro e w25 ⟨rfl, h25⟩))
                    all_goals
                      have H25 := Lib.hid (h25.sub (S' := []) (fun _ h => h) (fun _ h => absurd h List.not_mem_nil))
                      clear rn hS hSd h21 h22 h23 h24 h25
                      go_wp2_with fail
                      go_loopw [14] (fun i wr => ∃ t : Nat, t ≤ 32 ∧ i = .int .i64 t ∧ Sc2 w wr ga gb f' R' [] g7 G') (fun i _ => 32 - (intOf i).toNat)
                      case atStart => exact ⟨0, Nat.zero_le _, rfl, H25.out⟩
                      case round =>
                        obtain ⟨t, ht, rfl, hs⟩ := hrel
                        have HSt := Lib.hid hs
                        by_cases ht2 : t < 32
                        · have tt1 : (t : Int) < 32 := by omega
                          have tt0 : (0 : Int) ≤ (t : Int) := by omega
                          have c5 := K5.out _ _ hs
                          obtain ⟨y, hy⟩ : ∃ y, wd f' ap t = y := ⟨_, rfl⟩
                          have HY : Hid (((wd f' ap t : Nat) : Int) = (y : Int)) := Lib.hid (by rw [hy])
                          obtain ⟨PP, hPP⟩ : ∃ PP : Int, (ap : Int) + 8 * (t : Int) = PP := ⟨_, rfl⟩
                          have ha1 := HA1.out
                          have s1 : IntKind.i64.wrap (8 * (t : Int)) = 8 * (t : Int) := by rw [IntKind.wrap_i64]; omega
                          have s2 : IntKind.i64.wrap PP = PP := by rw [IntKind.wrap_i64]; omega
                          have HPP : Hid (PP = ((ap + 8 * t : Nat) : Int)) := Lib.hid (by omega)
                          clear hs ha1
                          have Hy := Lib.hid hy
                          clear hy
                          go_wp2_with fail
                          refine (load_e HSt.out ap t PP (y : Int) HPP.out (by have := HA1.out; omega) HA2.out HY.out).mono ?_
                          rintro e w30 ⟨rfl, h30⟩
                          have H30 := Lib.hid h30
                          have cq := h30.q.2.1 (p * 32 + t) (by omega)
                          rw [← RG.out t ht2, Hy.out] at cq
                          clear h30 HY
                          have en : ((y : Int) != (y : Int)) = false := by simp
                          go_wp2_with fail
                          go_roundw
                          case rel => exact ⟨t + 1, by omega, by go_num, H30.out⟩
                          case measure => simp [intOf]; omega
                        · have tt1 : ¬ (t : Int) < 32 := by omega
                          clear hs ht2 ht
                          go_wp2
                          exact ⟨⟨p + 1, by omega, by go_num, HSt.out⟩, by simp [intOf]; omega⟩
                  · have p1 : ¬ (p : Int) < 2 := by omega
                    clear hp2 hp
                    go_wp2
                    exact ⟨⟨q + 1, f', G', by omega, by go_num, HSp.out.sub Qs.out (fun _ h => h), HR20.out⟩, by simp [intOf]; omega⟩
        · have hqn : ¬ (q : Int) < (nl : Int) := by omega
          clear hs hlt hq
          go_wp2
          go_ret
          exact ⟨rfl, HS.out.s.way⟩
theorem acts_any (l : List Act14) (A : Option Addr) (nl cap : Nat) (hn : l.length = nl) (w : World) (hA : ActsR w A l) :
    Calls Try.prog 5 #[.slice A nl cap] w fun e w' => e = .returned (.bool true) ∧ Below w.heap.size w w' := by
  by_cases h : nl ≤ 60
  · exact acts_short l A nl cap hn h w hA
  · exact acts_long A nl cap (by omega) w
end Go.Proofs.Ytgacfgofpanchaa
