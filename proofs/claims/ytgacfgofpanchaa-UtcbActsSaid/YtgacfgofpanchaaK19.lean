/- The contract of alive: the document's example holds. No condition. -/
import Derived.Test.YtgacfgofpanchaaProg
import Derived.Test.YtgacfgofpanchaaK18
import Derived.WalkKit
import Derived.WalkLawsBesides
import Derived.WalkSpells
import Derived.Deep.QuietTactic
import Derived.BigQuiet
import Derived.Deep.RegionHeld3
import Derived.Deep.RegionLaw
import Derived.Outline
import Derived.StillTailTactics
import Derived.Test.YtgacfgofpanchaaST
import Derived.Lib.LazyBuf
import Derived.Deep.WholeRow
namespace Go.Proofs.Ytgacfgofpanchaa
open Go.RowKit

/-- two blocks of an arena that the call made -/
structure AlS (W w : World) (ga gb bp : Nat) (f : Nat → Nat) : Prop where
  pb : PB w bp ga gb 65536 512 f
  way : Below W.heap.size W w
  lo : W.heap.size ≤ gb
theorem AlS.below {W w w' : World} {ga gb bp : Nat} {f : Nat → Nat} (h : AlS W w ga gb bp f) (hb : Below w.heap.size w w') : AlS W w' ga gb bp f := ⟨h.pb.below hb, h.way.trans (hb.mono h.way.size), h.lo⟩
theorem AlS.alloc {W w : World} {ga gb bp : Nat} {f : Nat → Nat} (h : AlS W w ga gb bp f) (o : Obj) : AlS W (w.alloc o) ga gb bp f := h.below ((Below.refl _ _).alloc (Nat.le_refl _) o)
theorem AlS.set {W w w' : World} {ga gb bp : Nat} {f g : Nat → Nat} (h : AlS W w ga gb bp f) (hp : PB w' bp ga gb 65536 512 g) (hg : w.grownBy w' (some gb)) : AlS W w' ga gb bp g := ⟨hp, h.way.trans (grownBy_below hg h.lo h.way.size), h.lo⟩
def exF1 : Nat → Nat := putF (fun _ => 0) 512 exM
def exF2 : Nat → Nat := openF exF1 512 ⟨8, 3⟩
def exF3 : Nat → Nat := putF exF2 1024 ⟨9, [1, 2], []⟩
theorem exM_ok : putOk exM = true := by decide
theorem exM_r : MsgR exM := ⟨by decide, by decide⟩
theorem exW : winOk ⟨8, 3⟩ = true := by decide
theorem ex_get2 : getM (wd exF2 512) = exM := (getM_openF _ _ _ exW).trans (getM_putF _ _ _ exM_r exM_ok)
theorem ex_w0 : wd exF2 512 0 = 18 := by
  rw [exF2, wd_openF _ _ _ _ exW, openG, if_neg (by omega), exF1, wd_putF _ _ _ _ exM_r exM_ok]
  rfl
theorem ex_w2 : wd exF2 512 2 = 776 := by
  rw [exF2, wd_openF _ _ _ _ exW, openG, if_pos rfl]
  rfl
theorem ex_told : (⟨9, [1, 2], []⟩ : Msg) = toldM 9 (getM (wd exF2 512)) := by rw [ex_get2]; rfl
theorem ex_get3 : getM (wd exF3 1024) = ⟨9, [1, 2], []⟩ := getM_putF _ _ _ ⟨by decide, by decide⟩ (by decide)
theorem ex_win : winX (wd exF3 512 2) = ⟨8, 3⟩ := by
  rw [exF3, wd_putF_apart _ _ _ _ _ (by omega)]
  exact win_openF _ _ _ exW

theorem AlS.lt {W w : World} {ga gb bp : Nat} {f : Nat → Nat} (h : AlS W w ga gb bp f) : gb < w.heap.size := h.pb.lt.2.1
/-- all that the last line of alive reads -/
structure AlZ (W w : World) (ga gb bp bi bm bn bA oA bB oB c c' d d' : Nat) (A B' : Option Addr) : Prop where
  al : AlS W w ga gb bp exF3
  it : RowK gb w bi #[.int .i64 16, .int .i64 2, .int .i64 5, .int .i64 3, .bool false] 24
  m : RowK gb w bm #[.int .u64 7, .slice A 2 c, .slice (some ⟨bB, oB, none⟩) 1 d] 43
  n : RowK gb w bn #[.int .u64 9, .slice (some ⟨bA, oA, none⟩) 2 c', .slice B' 0 d'] 43
  sB : SlK gb w (some ⟨bB, oB, none⟩) (itemCells exM.items)
  sA : SlK gb w (some ⟨bA, oA, none⟩) (u64s [1, 2])
theorem AlZ.below {W w w' : World} {ga gb bp bi bm bn bA oA bB oB c c' d d' : Nat} {A B' : Option Addr} (h : AlZ W w ga gb bp bi bm bn bA oA bB oB c c' d d' A B') (hb : Below w.heap.size w w') : AlZ W w' ga gb bp bi bm bn bA oA bB oB c c' d d' A B' :=
  ⟨h.al.below hb, h.it.below hb, h.m.below hb, h.n.below hb, h.sB.below hb, h.sA.below hb⟩
theorem AlZ.drew {W w : World} {ga gb bp bi bm bn bA oA bB oB c c' d d' : Nat} {A B' : Option Addr} (h : AlZ W w ga gb bp bi bm bn bA oA bB oB c c' d d' A B') : AlZ W w.drew ga gb bp bi bm bn bA oA bB oB c c' d d' A B' := h.below (Below.refl _ _).drew
theorem AlZ.cells {W w' : World} {ga gb bp bi bm bn bA oA bB oB c c' d d' : Nat} {A B' : Option Addr} (h : AlZ W w' ga gb bp bi bm bn bA oA bB oB c c' d d' A B') :  w'.cell? ⟨bi, 0, none⟩ = some (.int .i64 16) ∧ w'.cell? ⟨bi, 1, none⟩ = some (.int .i64 2) ∧ w'.cell? ⟨bi, 2, none⟩ = some (.int .i64 5) ∧ w'.cell? ⟨bi, 3, none⟩ = some (.int .i64 3) ∧ w'.cell? ⟨bi, 4, none⟩ = some (.bool false) ∧ w'.cell? ⟨bm, 0, none⟩ = some (.int .u64 7) ∧ w'.cell? ⟨bm, 1, none⟩ = some (.slice A 2 c) ∧ w'.cell? ⟨bm, 2, none⟩ = some (.slice (some ⟨bB, oB, none⟩) 1 d) ∧ w'.cell? ⟨bn, 0, none⟩ = some (.int .u64 9) ∧ w'.cell? ⟨bn, 1, none⟩ = some (.slice (some ⟨bA, oA, none⟩) 2 c') ∧ w'.cell? ⟨bn, 2, none⟩ = some (.slice B' 0 d') ∧ w'.cell? ⟨bB, oB, none⟩ = some (.int .i64 16) ∧ w'.cell? ⟨bB, oB + 1, none⟩ = some (.int .i64 2) ∧ w'.cell? ⟨bB, oB + 2, none⟩ = some (.int .i64 5) ∧ w'.cell? ⟨bB, oB + 3, none⟩ = some (.int .i64 3) ∧ w'.cell? ⟨bB, oB + 4, none⟩ = some (.bool false) ∧ w'.cell? ⟨bA, oA + 1, none⟩ = some (.int .u64 2) := by
  obtain ⟨b, o, e, _, hc⟩ := h.sB.sl (by intro e; cases e)
  cases e
  obtain ⟨b, o, e, _, ha⟩ := h.sA.sl (by intro e; cases e)
  cases e
  exact ⟨cell_of_row _ _ 0 _ _ _ h.it.row, cell_of_row _ _ 1 _ _ _ h.it.row, cell_of_row _ _ 2 _ _ _ h.it.row, cell_of_row _ _ 3 _ _ _ h.it.row, cell_of_row _ _ 4 _ _ _ h.it.row, cell_of_row _ _ 0 _ _ _ h.m.row, cell_of_row _ _ 1 _ _ _ h.m.row, cell_of_row _ _ 2 _ _ _ h.m.row, cell_of_row _ _ 0 _ _ _ h.n.row, cell_of_row _ _ 1 _ _ _ h.n.row, cell_of_row _ _ 2 _ _ _ h.n.row,
    hc 0 _ rfl, hc 1 _ rfl, hc 2 _ rfl, hc 3 _ rfl, hc 4 _ rfl, ha 1 _ rfl⟩
theorem run_eq_ex (w : World) : (binOp .eql 24 (.agg #[.int .i64 16, .int .i64 2, .int .i64 5, .int .i64 3, .bool false]) (.agg #[.int .i64 16, .int .i64 2, .int .i64 5, .int .i64 3, .bool false])).run Try.prog w = .ok (.bool true) w := by kernel_rfl
theorem run_order (b o : Int) (w : World) : (Instr.field 26 (.agg #[.int .i64 b, .int .i64 o]) 1).run Try.prog w = .ok (.int .i64 o) w := by kernel_rfl
theorem window_ex {W w : World} {ga gb bp bi bm bn bA oA bB oB c c' d d' : Nat} {A B' : Option Addr} (h : AlZ W w ga gb bp bi bm bn bA oA bB oB c c' d d' A B') : Calls Try.prog 21 #[.pointer (some ⟨bp, 0, none⟩)] w fun e w' => e = .returned (.agg #[.int .i64 8, .int .i64 3]) ∧ AlZ W w' ga gb bp bi bm bn bA oA bB oB c c' d d' A B' :=
  (window_any w bp ga gb 65536 512 exF3 ⟨8, 3⟩ ex_win h.al.pb).mono fun _e _w' q => ⟨q.1, h.below q.2⟩
theorem at_ex {W w : World} {ga gb bp bi bm bn bA oA bB oB c c' d d' : Nat} {A B' : Option Addr} (h : AlZ W w ga gb bp bi bm bn bA oA bB oB c c' d d' A B') : Calls Try.prog 23 #[.pointer (some ⟨ga, 0, none⟩), .int .i64 4] w fun e w' => e = .returned (.pointer none) ∧ AlZ W w' ga gb bp bi bm bn bA oA bB oB c c' d d' A B' :=
  (at_no w ga gb 65536 exF3 4 h.al.pb.ar (.inr (by decide)) (by omega) (by omega)).mono fun e w' q => ⟨q.1, h.below q.2⟩
theorem may_ex {W w : World} {ga gb bp bi bm bn bA oA bB oB c c' d d' : Nat} {A B' : Option Addr} (h : AlZ W w ga gb bp bi bm bn bA oA bB oB c c' d d' A B') : Calls Try.prog 15 #[.agg #[.int .i64 1, .int .i64 1]] w fun e w' => e = .returned (.bool false) ∧ AlZ W w' ga gb bp bi bm bn bA oA bB oB c c' d d' A B' :=
  (pmay_any 1 1 false (by decide) w).mono fun e w' q => ⟨q.1, h.below q.2⟩
set_option maxRecDepth 100000 in
set_option maxHeartbeats 12800000 in
theorem alive_any (w : World) : Calls Try.prog 10 #[] w fun e w' => e = .returned (.bool true) ∧ Below w.heap.size w w' := by
  go_enter Try.func10, Try.ntmps10
  go_wp2_with fail
  refine (new_l 65536 65536 rfl w (by omega) (by omega) pop_64k).mono ?_
  rintro e w1 ⟨ga, gb, rfl, ha1, hb1, hg1, _⟩
  have A1 := Lib.hid ha1
  have B1 := Lib.hid hb1
  have G1 := Lib.hid hg1
  clear ha1 hb1 hg1
  go_wp2_with fail
  refine (at_l w w1 ga gb 65536 _ 512 512 rfl (by omega) (by omega) A1.out B1.out).mono ?_
  rintro e w2 ⟨bp, rfl, hp2, hb2, _⟩
  have S2 : Hid (AlS w w2 ga gb bp (fun _ => 0)) := Lib.hid ⟨hp2, B1.out.trans (hb2.mono B1.out.size), G1.out⟩
  clear hp2 hb2 A1 B1 G1
  go_wp2_with fail
  refine (code_ex _).mono ?_
  rintro e w3 ⟨rfl, hb3⟩
  have S3 := Lib.hid (S2.out.below hb3)
  clear hb3 S2
  go_wp2_with fail
  refine (item_ex _).mono ?_
  rintro e w4 ⟨rfl, hb4⟩
  have S4 := Lib.hid (S3.out.below hb4)
  clear hb4 S3
  go_wp2_with fail
  refine (put_l _ bp ga gb 65536 512 _ exM exM_ok 7 rfl _ _ 2 2 1 1 rfl rfl ((SlR_new2 _ _ _ _).below ((Below.refl _ _).alloc (Nat.le_refl _) _)) (SlR_new3 _ _ _ _ _) exM_r (((S4.out.alloc _).alloc _).alloc _).pb).mono ?_
  rintro e w5 ⟨rfl, hp5, hg5⟩
  have S5 := Lib.hid (AlS.set (((S4.out.alloc _).alloc _).alloc _) hp5 hg5)
  have I5 := Lib.hid ((((RowK.new #[.int .i64 16, .int .i64 2, .int .i64 5, .int .i64 3, .bool false] 24 S4.out.lt).below ((Below.refl _ _).alloc (Nat.le_refl _) _)).below ((Below.refl _ _).alloc (Nat.le_refl _) _)).grown hg5)
  obtain ⟨bi, hbi⟩ : ∃ bi, bi = w4.heap.size := ⟨_, rfl⟩
  rw [← hbi] at I5 ⊢
  clear hp5 hg5 S4 hbi
  go_wp2_with fail
  refine (open_yes _ bp ga gb 65536 512 _ 8 3 (by decide) S5.out.pb).mono ?_
  rintro e w6 ⟨rfl, hp6, hg6⟩
  have S6 : Hid (AlS w w6 ga gb bp exF2) := Lib.hid (AlS.set S5.out hp6 hg6)
  have I6 := Lib.hid (I5.out.grown hg6)
  clear hp6 hg6 S5 I5
  go_wp2_with fail
  refine (load_l _ ga gb 65536 exF2 512 0 512 18 (by omega) (by omega) (by omega) S6.out.pb.ar (by rw [ex_w0]; rfl)).mono ?_
  rintro e w7 ⟨rfl, rfl⟩
  go_wp2_with fail
  refine (load_l _ ga gb 65536 exF2 512 2 528 776 (by omega) (by omega) (by omega) S6.out.pb.ar (by rw [ex_w2]; rfl)).mono ?_
  rintro e w7 ⟨rfl, rfl⟩
  go_wp2_with fail
  refine (get_l _ bp ga gb 65536 512 exF2 exM ex_get2 7 rfl 2 1 rfl rfl S6.out.pb).mono ?_
  rintro e w8 ⟨A, B, c, d, rfl, hA8, hB8, hb8, fA8, fB8⟩
  have S8 := Lib.hid ((S6.out.below hb8).alloc (.cells #[.int .u64 7, .slice A 2 c, .slice B 1 d] 43))
  have I8 := Lib.hid ((I6.out.below hb8).below ((Below.refl _ _).alloc (Nat.le_refl _) (.cells #[.int .u64 7, .slice A 2 c, .slice B 1 d] 43)))
  have M8 := Lib.hid (RowK.new #[.int .u64 7, .slice A 2 c, .slice B 1 d] 43 (S6.out.below hb8).lt)
  have B8 := Lib.hid ((SlK.of_get hB8 fB8 S6.out.lt).below ((Below.refl _ _).alloc (Nat.le_refl _) (.cells #[.int .u64 7, .slice A 2 c, .slice B 1 d] 43)))
  obtain ⟨bm, hbm⟩ : ∃ bm, bm = w8.heap.size := ⟨_, rfl⟩
  rw [← hbm] at M8
  clear hA8 hB8 hb8 fA8 fB8 S6 I6
  go_wp2_with fail
  rw [← hbm]
  obtain ⟨w8a, hw8a⟩ : ∃ w8a, w8a = w8.alloc (.cells #[.int .u64 7, .slice A 2 c, .slice B 1 d] 43) := ⟨_, rfl⟩
  rw [← hw8a] at S8 I8 M8 B8 ⊢
  clear hw8a hbm
  refine (at_l w w8a ga gb 65536 exF2 1024 1024 rfl (by omega) (by omega) S8.out.pb.ar S8.out.way).mono ?_
  rintro e w9 ⟨bq, rfl, hp9, hb9, _⟩
  have Q9 := Lib.hid hp9
  have S9 := Lib.hid (S8.out.below hb9)
  have I9 := Lib.hid (I8.out.below hb9)
  have M9 := Lib.hid (M8.out.below hb9)
  have B9 := Lib.hid (B8.out.below hb9)
  clear hp9 hb9 S8 I8 M8 B8
  go_wp2_with fail
  refine (tell_any w9 bp bq ga gb 65536 512 1024 9 exF2 ⟨9, [1, 2], []⟩ ex_told (by omega) S9.out.pb Q9.out).mono ?_
  rintro e w10 ⟨rfl, hp10, hg10⟩
  have S10 : Hid (AlS w w10 ga gb bp exF3) := Lib.hid (AlS.set S9.out (S9.out.pb.set hp10.ar hg10) hg10)
  have I10 := Lib.hid (I9.out.grown hg10)
  have M10 := Lib.hid (M9.out.grown hg10)
  have B10 := Lib.hid (B9.out.grown hg10)
  clear hp10 hg10 S9 I9 M9 B9 Q9
  go_wp2_with fail
  refine (at_l w w10 ga gb 65536 exF3 1024 1024 rfl (by omega) (by omega) S10.out.pb.ar S10.out.way).mono ?_
  rintro e w11 ⟨bq2, rfl, hp11, hb11, _⟩
  have Q11 := Lib.hid hp11
  have S11 := Lib.hid (S10.out.below hb11)
  have I11 := Lib.hid (I10.out.below hb11)
  have M11 := Lib.hid (M10.out.below hb11)
  have B11 := Lib.hid (B10.out.below hb11)
  clear hp11 hb11 S10 I10 M10 B10
  go_wp2_with fail
  refine (get_l _ bq2 ga gb 65536 1024 exF3 ⟨9, [1, 2], []⟩ ex_get3 9 rfl 2 0 rfl rfl Q11.out).mono ?_
  rintro e w12 ⟨A', B', c', d', rfl, hA12, hB12, hb12, fA12, fB12⟩
  have bb : Below w12.heap.size w12 (w12.alloc (.cells #[.int .u64 9, .slice A' 2 c', .slice B' 0 d'] 43)) := (Below.refl _ _).alloc (Nat.le_refl _) _
  have S12 := Lib.hid ((S11.out.below hb12).below bb)
  have I12 := Lib.hid ((I11.out.below hb12).below bb)
  have M12 := Lib.hid ((M11.out.below hb12).below bb)
  have B12 := Lib.hid ((B11.out.below hb12).below bb)
  have N12 := Lib.hid (RowK.new #[.int .u64 9, .slice A' 2 c', .slice B' 0 d'] 43 (S11.out.below hb12).lt)
  have A12 := Lib.hid ((SlK.of_get hA12 fA12 S11.out.lt).below bb)
  obtain ⟨bn, hbn⟩ : ∃ bn, bn = w12.heap.size := ⟨_, rfl⟩
  rw [← hbn] at N12
  clear hA12 hB12 hb12 fA12 fB12 S11 I11 M11 B11 Q11 bb
  go_wp2_with fail
  rw [← hbn]
  obtain ⟨w13, hw13⟩ : ∃ w13, w13 = w12.alloc (.cells #[.int .u64 9, .slice A' 2 c', .slice B' 0 d'] 43) := ⟨_, rfl⟩
  rw [← hw13] at S12 I12 M12 B12 N12 A12 ⊢
  clear hw13 hbn
  obtain ⟨bB, oB, rfl, _, _⟩ := B12.out.sl (by intro e; cases e)
  obtain ⟨bA, oA, rfl, _, _⟩ := A12.out.sl (by intro e; cases e)
  have hZ : AlZ w w13 ga gb bp bi bm bn bA oA bB oB c c' d d' A B' := ⟨S12.out, I12.out, M12.out, N12.out, B12.out, A12.out⟩
  have hZd := hZ.drew
  have r1 := run_eq_ex
  have r2 := run_order
  clear S12 I12 M12 N12 B12 A12
  as_aux_lemma =>
    dsimp only [List.append]
    obtain ⟨i0, i1, i2, i3, i4, m0, m1, m2, n0, n1, n2, p0, p1, p2, p3, p4, q1⟩ := hZ.cells
    have HZd := Lib.hid hZd
    clear hZ hZd
    refine wp_region_still_tail 88 (by as_aux_lemma => kernel_rfl) (lexTail_of (by as_aux_lemma => kernel_rfl) (by as_aux_lemma => decide) (by as_aux_lemma => kernel_rfl) (by as_aux_lemma => kernel_rfl) (by as_aux_lemma => kernel_rfl) (by as_aux_lemma => kernel_rfl)) ?_
    as_aux_lemma =>
      simp only [List.take_succ_cons, List.take_zero, List.drop_succ_cons, List.drop_zero]
      as_aux_lemma =>
        iterate 11 still_step
        as_aux_lemma =>
          iterate 11 still_step
          as_aux_lemma =>
            iterate 11 still_step
            as_aux_lemma =>
              iterate 11 still_step
              as_aux_lemma =>
                iterate 11 still_step
                as_aux_lemma =>
                  iterate 11 still_step
                  as_aux_lemma =>
                    iterate 11 still_step
                    as_aux_lemma =>
                      iterate 11 still_step
                      as_aux_lemma =>
                        try refine wpStill_nil ?_
                        go_wp2_with fail
                        refine (window_ex HZd.out).mono ?_
                        rintro e w14 ⟨rfl, h14⟩
                        have H14 := Lib.hid h14
                        clear h14 HZd i0 i1 i2 i3 i4 m0 m1 m2 n0 n1 n2 p0 p1 p2 p3 p4 q1
                        go_wp2_with fail
                        refine (at_ex H14.out).mono ?_
                        rintro e w15 ⟨rfl, h15⟩
                        have H15 := Lib.hid h15
                        clear h15 H14
                        go_wp2_with fail
                        refine (may_ex H15.out).mono ?_
                        rintro e w16 ⟨rfl, h16⟩
                        have H16 := Lib.hid h16
                        clear h16 H15
                        go_wp2
                        go_ret
                        exact ⟨rfl, H16.out.al.way⟩
end Go.Proofs.Ytgacfgofpanchaa
