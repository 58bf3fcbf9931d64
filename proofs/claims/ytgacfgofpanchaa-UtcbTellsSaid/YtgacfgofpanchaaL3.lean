/- The walk of UtcbTells. Condition: the messages are read. -/
import Derived.Test.YtgacfgofpanchaaProg
import Derived.Test.YtgacfgofpanchaaU3
import Derived.WalkKit
import Derived.WalkLawsBesides
import Derived.WalkSpells
import Derived.Deep.QuietTactic
import Derived.BigQuiet
import Derived.Deep.RegionHeld3
import Derived.Deep.RegionLaw
import Derived.Outline
import Derived.Lib.LazyBuf
import Derived.Deep.WholeRow
namespace Go.Proofs.Ytgacfgofpanchaa
open Go.RowKit

set_option maxRecDepth 100000 in
set_option maxHeartbeats 1600000 in
theorem tells_long (m o : Msg) (A B A' B' : Option Addr) (n c k d n' c' k' d' lb : Nat) (hl : 8 < n ∨ 8 < n') (n1 : n ≤ 9223372036854775807) (n2 : n' ≤ 9223372036854775807) (w : World) :
    Calls Try.prog 6 #[.agg #[.int .u64 (m.label : Int), .slice A n c, .slice B k d], .agg #[.int .u64 (o.label : Int), .slice A' n' c', .slice B' k' d'], .int .u64 (lb : Int)] w fun e w' => e = .returned (.bool true) ∧ Below w.heap.size w w' := by
  have hP := ((Pre.start w [] (fun s hs => absurd hs List.not_mem_nil)).alloc #[.int .u64 (m.label : Int), .slice A n c, .slice B k d] 43).alloc #[.int .u64 (o.label : Int), .slice A' n' c', .slice B' k' d'] 43
  simp only [World.size_alloc] at hP
  have HP := Lib.hid hP
  clear hP
  by_cases h8 : 8 < n
  all_goals
    have i8 : (if 8 < n then 8 < (n : Int) else 8 < (n' : Int)) := by split <;> omega
    first | rw [if_pos h8] at i8 | (rw [if_neg h8] at i8; have j8 : ¬ 8 < (n : Int) := by omega)
    clear hl h8
    go_enter Try.func6, Try.ntmps6
    go_wp2_with fail
    refine (alive_any _).mono ?_
    rintro e w1 ⟨rfl, hb1⟩
    have h1 := HP.out.below hb1
    have q1 : w1.cell? ⟨w.heap.size, 1, none⟩ = some (.slice A n c) := cell_of_row w1 _ 1 _ _ _ (h1.rows (w.heap.size, #[.int .u64 (m.label : Int), .slice A n c, .slice B k d], 43) (by simp))
    have q2 : w1.cell? ⟨w.heap.size + 1, 1, none⟩ = some (.slice A' n' c') := cell_of_row w1 _ 1 _ _ _ (h1.rows (w.heap.size + 1, #[.int .u64 (o.label : Int), .slice A' n' c', .slice B' k' d'], 43) (by simp))
    have H1 := Lib.hid h1
    clear h1 hb1 HP
    go_wp2
    go_ret
    exact ⟨rfl, H1.out.way⟩
set_option maxRecDepth 100000 in
set_option maxHeartbeats 3200000 in
theorem tells_short (m o : Msg) (A B A' B' : Option Addr) (n c k d n' c' k' d' lb : Nat) (hn : m.words.length = n) (hn' : o.words.length = n') (h8 : n ≤ 8) (h8' : n' ≤ 8) (mr : MsgR m) (or : MsgR o) (hlb : lb < 18446744073709551616) (w : World) (hA : SlR w A (u64s m.words)) (hA' : SlR w A' (u64s o.words)) :
    Calls Try.prog 6 #[.agg #[.int .u64 (m.label : Int), .slice A n c, .slice B k d], .agg #[.int .u64 (o.label : Int), .slice A' n' c', .slice B' k' d'], .int .u64 (lb : Int)] w fun e w' => e = .returned (.bool true) ∧ Below w.heap.size w w' := by
  have hP := ((Pre.start w [] (fun s hs => absurd hs List.not_mem_nil)).alloc #[.int .u64 (m.label : Int), .slice A n c, .slice B k d] 43).alloc #[.int .u64 (o.label : Int), .slice A' n' c', .slice B' k' d'] 43
  simp only [World.size_alloc] at hP
  have HP := Lib.hid hP
  obtain ⟨M, hM⟩ : ∃ M : Msg, M = ⟨m.label, m.words, []⟩ := ⟨_, rfl⟩
  obtain ⟨O, hO⟩ : ∃ O : Msg, O = ⟨o.label, o.words, []⟩ := ⟨_, rfl⟩
  obtain ⟨T, hT⟩ : ∃ T : Msg, T = ⟨lb, m.words, []⟩ := ⟨_, rfl⟩
  have Mok : Hid (putOk M = true) := Lib.hid (by rw [hM]; exact (putOk_iff _).2 ⟨by show m.words.length ≤ 8; omega, by simp, by simp⟩)
  have Ook : Hid (putOk O = true) := Lib.hid (by rw [hO]; exact (putOk_iff _).2 ⟨by show o.words.length ≤ 8; omega, by simp, by simp⟩)
  have Tok : Hid (putOk T = true) := Lib.hid (by rw [hT]; exact (putOk_iff _).2 ⟨by show m.words.length ≤ 8; omega, by simp, by simp⟩)
  have Mr : Hid (MsgR M) := Lib.hid (by rw [hM]; exact mr)
  have Or : Hid (MsgR O) := Lib.hid (by rw [hO]; exact or)
  have Tr : Hid (MsgR T) := Lib.hid (by rw [hT]; exact ⟨hlb, mr.2⟩)
  have Ml : Hid ((M.label : Int) = (m.label : Int)) := Lib.hid (by rw [hM])
  have Ol : Hid ((O.label : Int) = (o.label : Int)) := Lib.hid (by rw [hO])
  have Tl : Hid ((T.label : Int) = (lb : Int)) := Lib.hid (by rw [hT])
  have Mn : Hid (M.words.length = n) := Lib.hid (by rw [hM]; exact hn)
  have On : Hid (O.words.length = n') := Lib.hid (by rw [hO]; exact hn')
  have Tn : Hid (T.words.length = n) := Lib.hid (by rw [hT]; exact hn)
  have Mk : Hid (M.items.length = 0) := Lib.hid (by rw [hM]; rfl)
  have Ok : Hid (O.items.length = 0) := Lib.hid (by rw [hO]; rfl)
  have Tk : Hid (T.items.length = 0) := Lib.hid (by rw [hT]; rfl)
  have MA : Hid (SlR w A (u64s M.words)) := Lib.hid (by rw [hM]; exact hA)
  have OA : Hid (SlR w A' (u64s O.words)) := Lib.hid (by rw [hO]; exact hA')
  have TA : Hid (SlR w A (u64s T.words)) := Lib.hid (by rw [hT]; exact hA)
  have MI : Hid (∀ w : World, SlR w none (itemCells M.items)) := Lib.hid (by rw [hM]; exact fun _ h => absurd rfl h)
  have OI : Hid (∀ w : World, SlR w none (itemCells O.items)) := Lib.hid (by rw [hO]; exact fun _ h => absurd rfl h)
  have TI : Hid (∀ w : World, SlR w none (itemCells T.items)) := Lib.hid (by rw [hT]; exact fun _ h => absurd rfl h)
  have TM : Hid (T = toldM lb M) := Lib.hid (by rw [hT, hM]; rfl)
  have HLB := Lib.hid hlb
  have i8 : (n : Int) ≤ 8 := by omega
  have i8' : (n' : Int) ≤ 8 := by omega
  obtain ⟨f1, hf1⟩ : ∃ f1, f1 = putU (fun _ => 0) 256 O := ⟨_, rfl⟩
  obtain ⟨f2, hf2⟩ : ∃ f2, f2 = putU f1 0 M := ⟨_, rfl⟩
  obtain ⟨f3, hf3⟩ : ∃ f3, f3 = putF f2 256 T := ⟨_, rfl⟩
  have F2 : Hid (getM (wd f2 0) = M) := Lib.hid (by rw [hf2, putU_ok _ _ Mok.out]; exact getM_putF _ _ _ Mr.out Mok.out)
  have F3 : Hid (getM (wd f3 256) = T) := Lib.hid (by rw [hf3]; exact getM_putF _ _ _ Tr.out Tok.out)
  have F4 : Hid (getM (wd f3 0) = M) := Lib.hid (by rw [hf3, getM_putF_apart _ _ _ _ (by omega)]; exact F2.out)
  have E1 := Lib.hid hf1
  have E2 := Lib.hid hf2
  have E3 := Lib.hid hf3
  clear hP hM hO hT mr or hlb hn hn' h8 h8' hA hA' hf1 hf2 hf3
  go_enter Try.func6, Try.ntmps6
  go_wp2_with fail
  refine (alive_any _).mono ?_
  rintro e w1 ⟨rfl, hb1⟩
  have H1 := Lib.hid (HP.out.below hb1)
  obtain ⟨g3, hg3⟩ : ∃ g3, g3 = w.heap.size := ⟨_, rfl⟩
  obtain ⟨g4, hg4⟩ : ∃ g4, g4 = w.heap.size + 1 := ⟨_, rfl⟩
  rw [← hg4, ← hg3] at H1 ⊢
  have q1 : w1.cell? ⟨g3, 1, none⟩ = some (.slice A n c) := cell_of_row w1 _ 1 _ _ _ (H1.out.rows (g3, #[.int .u64 (m.label : Int), .slice A n c, .slice B k d], 43) (by simp))
  have q2 : w1.cell? ⟨g4, 1, none⟩ = some (.slice A' n' c') := cell_of_row w1 _ 1 _ _ _ (H1.out.rows (g4, #[.int .u64 (o.label : Int), .slice A' n' c', .slice B' k' d'], 43) (by simp))
  clear hb1 HP hg3 hg4
  go_wp2_with fail
  refine (new_c H1.out).mono ?_
  rintro e w2 ⟨ga, gb, rfl, h2⟩
  have H2 := Lib.hid h2
  clear h2 H1 q1 q2
  go_wp2_with fail
  refine (at_c H2.out 0 0 rfl (by omega) (by omega)).mono ?_
  rintro e w3 ⟨bp, rfl, h3⟩
  have H3 := Lib.hid h3
  clear h3 H2
  go_wp2_with fail
  refine (at_c H3.out 256 256 rfl (by omega) (by omega)).mono ?_
  rintro e w4 ⟨bq, rfl, h4⟩
  obtain ⟨R, hR⟩ : ∃ R : List Rw, R = (bq, blkRow ga 256, 79) :: (bp, blkRow ga 0, 79) :: (g4, #[.int .u64 (o.label : Int), .slice A' n' c', .slice B' k' d'], 43) :: (g3, #[.int .u64 (m.label : Int), .slice A n c, .slice B k d], 43) :: [] := ⟨_, rfl⟩
  rw [← hR] at h4
  have Rq : Hid ((bq, blkRow ga 256, 79) ∈ R) := Lib.hid (by rw [hR]; simp)
  have Rp : Hid ((bp, blkRow ga 0, 79) ∈ R) := Lib.hid (by rw [hR]; simp)
  have R4 : Hid ((g4, #[.int .u64 (o.label : Int), .slice A' n' c', .slice B' k' d'], 43) ∈ R) := Lib.hid (by rw [hR]; simp)
  have R3 : Hid ((g3, #[.int .u64 (m.label : Int), .slice A n c, .slice B k d], 43) ∈ R) := Lib.hid (by rw [hR]; simp)
  have H4 := Lib.hid h4
  have q3 := h4.cell R4.out 0
  have q4 := h4.cell R4.out 1
  simp only [List.getElem?_toArray, List.getElem?_cons_zero, List.getElem?_cons_succ] at q3 q4
  clear h4 H3 hR
  go_wp2_with fail
  refine (put_c H4.out Rq.out (by omega) (by omega) O Or.out 0 (putE_ok Ook.out) o.label Ol.out A' none n' c' 0 0 On.out Ok.out (by omega) (H4.out.arg OA.out) (OI.out _)).mono ?_
  rintro e w5 ⟨rfl, h5⟩
  rw [← E1.out] at h5
  have q5 := h5.cell R3.out 0
  have q6 := h5.cell R3.out 1
  simp only [List.getElem?_toArray, List.getElem?_cons_zero, List.getElem?_cons_succ] at q5 q6
  have H5 := Lib.hid h5
  clear h5 H4 q3 q4
  go_wp2_with fail
  refine (put_c H5.out Rp.out (by omega) (by omega) M Mr.out 0 (putE_ok Mok.out) m.label Ml.out A none n c 0 0 Mn.out Mk.out (by omega) (H5.out.arg MA.out) (MI.out _)).mono ?_
  rintro e w6 ⟨rfl, h6⟩
  rw [← E2.out] at h6
  have H6 := Lib.hid h6
  clear h6 H5 q5 q6
  go_wp2_with fail
  refine (tell_c H6.out Rp.out (by omega) (by omega) Rq.out (by omega) (by omega) lb HLB.out T (by rw [F2.out]; exact TM.out)).mono ?_
  rintro e w7 ⟨rfl, h7⟩
  rw [← E3.out] at h7
  have H7 := Lib.hid h7
  clear h7 H6
  go_wp2_with fail
  have hS := H7.out
  have hSd := H7.out.drew
  have KC : Hid (∀ (w' : World) (S : List Sls), Scn w w' ga gb f3 R S → w'.cell? ⟨g3, 0, none⟩ = some (.int .u64 (m.label : Int)) ∧ w'.cell? ⟨g3, 1, none⟩ = some (.slice A n c)) := Lib.hid (fun w' S h => ⟨h.cell R3.out 0, h.cell R3.out 1⟩)
  go_region_held3 (fun w' => w'.cell? ⟨g3, 0, none⟩ = some (.int .u64 (m.label : Int)) ∧ w'.cell? ⟨g3, 1, none⟩ = some (.slice A n c)) (exact KC.out _ _ (by assumption)) (first | (go_at_call 19; (with_reducible refine (get_c (by assumption) Rq.out (by omega) (by omega) T F3.out lb Tl.out n 0 Tn.out Tk.out).mono ?_); rintro e w8 ⟨A1, B1, c1, d1, rfl, h8⟩) | (go_at_call 19; (with_reducible refine (get_c (by assumption) Rp.out (by omega) (by omega) M F4.out m.label Ml.out n 0 Mn.out Mk.out).mono ?_); rintro e w9 ⟨A2, B2, c2, d2, rfl, h9⟩) | (go_at_call 18; (with_reducible refine (same_c (by assumption) T T true (sameM_self T) lb lb Tl.out Tl.out _ _ _ _ n n 0 0 _ _ _ _ Tn.out Tn.out Tk.out Tk.out (by omega) (by omega) (by omega) (by omega) (Scn.s0 (by assumption)) (Scn.arg (by assumption) TA.out) (Scn.s1 (by assumption)) (TI.out _)).mono ?_); rintro e w10 ⟨rfl, h10⟩) | (go_at_call 18; (with_reducible refine (same_c (by assumption) M M true (sameM_self M) m.label m.label Ml.out Ml.out _ _ _ _ n n 0 0 _ _ _ _ Mn.out Mn.out Mk.out Mk.out (by omega) (by omega) (by omega) (by omega) (Scn.s0 (by assumption)) (Scn.arg (by assumption) MA.out) (Scn.s1 (by assumption)) (MI.out _)).mono ?_); rintro e w11 ⟨rfl, h11⟩))
  all_goals
    go_wp2
    go_ret
    exact ⟨rfl, h11.way⟩
theorem tells_any (m o : Msg) (A B A' B' : Option Addr) (n c k d n' c' k' d' lb : Nat) (hn : m.words.length = n) (hn' : o.words.length = n') (n1 : n ≤ 9223372036854775807) (n2 : n' ≤ 9223372036854775807) (mr : MsgR m) (or : MsgR o) (hlb : lb < 18446744073709551616) (w : World) (hA : SlR w A (u64s m.words)) (hA' : SlR w A' (u64s o.words)) :
    Calls Try.prog 6 #[.agg #[.int .u64 (m.label : Int), .slice A n c, .slice B k d], .agg #[.int .u64 (o.label : Int), .slice A' n' c', .slice B' k' d'], .int .u64 (lb : Int)] w fun e w' => e = .returned (.bool true) ∧ Below w.heap.size w w' := by
  by_cases h : n ≤ 8 ∧ n' ≤ 8
  · exact tells_short m o A B A' B' n c k d n' c' k' d' lb hn hn' h.1 h.2 mr or hlb w hA hA'
  · exact tells_long m o A B A' B' n c k d n' c' k' d' lb (by omega) n1 n2 w
end Go.Proofs.Ytgacfgofpanchaa
