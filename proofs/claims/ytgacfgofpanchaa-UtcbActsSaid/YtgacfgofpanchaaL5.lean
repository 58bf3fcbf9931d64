/- The walk of UtcbBack. Condition: the message is read. -/
import Derived.Test.YtgacfgofpanchaaProg
import Derived.Test.YtgacfgofpanchaaU3
import Derived.WalkKit
import Derived.WalkLawsBesides
import Derived.WalkSpells
import Derived.Deep.QuietTactic
import Derived.BigQuiet
import Derived.Deep.RegionHeld3
import Derived.Deep.RegionLaw
import Derived.Outline
import Derived.Lib.LazyBuf
import Derived.Deep.WholeRow
namespace Go.Proofs.Ytgacfgofpanchaa
open Go.RowKit

def openE (w : Wnd) : Int := if winOk w = true then 0 else 1
def openU (f : Nat → Nat) (a : Nat) (w : Wnd) : Nat → Nat := if winOk w = true then openF f a w else f
theorem open_u {W w : World} {ga gb : Nat} {f : Nat → Nat} {R : List Rw} {S : List Sls} (h : Scn W w ga gb f R S) {bp a : Nat} (hm : (bp, blkRow ga a, 79) ∈ R) (ha : a + 256 ≤ 65536) (h8 : a % 8 = 0) (b o : Int) (er : Int) (her : openE ⟨b, o⟩ = er) :
    Calls Try.prog 20 #[.pointer (some ⟨bp, 0, none⟩), .agg #[.int .i64 b, .int .i64 o]] w fun e w' => e = .returned (.int .i64 er) ∧ Scn W w' ga gb (openU f a ⟨b, o⟩) R S := by
  subst her
  unfold openE openU
  cases ok : winOk ⟨b, o⟩
  · exact (open_c_no h bp b o ok).mono fun e w' q => ⟨by rw [q.1, if_neg (by decide)], by rw [if_neg (by decide)]; exact q.2⟩
  · exact (open_c h hm ha h8 b o ok).mono fun e w' q => ⟨by rw [q.1, if_pos rfl], by rw [if_pos rfl]; exact q.2⟩
theorem fillF_lt (f : Nat → Nat) (a n c : Nat) (hf : ∀ i, f i < 256) (hc : c < 256) (j : Nat) : fillF f a n c j < 256 := by
  unfold fillF
  split
  · exact hc
  · exact hf j
theorem two_putU (f : Nat → Nat) (a : Nat) (m : Msg) : wd (putU f a m) a 2 = wd f a 2 := by
  unfold putU
  split
  · exact two_putF f a m
  · rfl
theorem one_get (f : Nat → Nat) (a : Nat) : getM (wd (openU (putU f a ⟨1, [], []⟩) a ⟨4, 2⟩) a) = ⟨1, [], []⟩ := by
  rw [putU_ok _ _ (by decide)]
  unfold openU
  rw [if_pos (by decide), getM_openF _ _ _ (by decide)]
  exact getM_putF _ _ _ ⟨by decide, by decide⟩ (by decide)
theorem putOk_all {m : Msg} (h8 : m.words.length ≤ 8) (h2 : m.items.length ≤ 2) : putOk m = m.items.all mayI := by
  unfold putOk
  rw [decide_eq_true ⟨h8, h2⟩, Bool.true_and]
set_option maxRecDepth 100000 in
set_option maxHeartbeats 1600000 in
theorem back_long (m : Msg) (A B : Option Addr) (n c k d spot fl : Nat) (b o : Int) (hl : 8 < n ∨ 2 < k) (n1 : n ≤ 9223372036854775807) (n2 : k ≤ 9223372036854775807) (w : World) :
    Calls Try.prog 8 #[.agg #[.int .u64 (m.label : Int), .slice A n c, .slice B k d], .agg #[.int .i64 b, .int .i64 o], .int .u16 (spot : Int), .int .u8 (fl : Int)] w fun e w' => e = .returned (.bool true) ∧ Below w.heap.size w w' := by
  have hP := ((Pre.start w [] (fun s hs => absurd hs List.not_mem_nil)).alloc #[.int .u64 (m.label : Int), .slice A n c, .slice B k d] 43).alloc #[.int .i64 b, .int .i64 o] 26
  simp only [World.size_alloc] at hP
  have HP := Lib.hid hP
  clear hP
  by_cases h8 : 8 < n
  all_goals
    have i8 : (if 8 < n then 8 < (n : Int) else 2 < (k : Int)) := by split <;> omega
    first | rw [if_pos h8] at i8 | (rw [if_neg h8] at i8; have j8 : ¬ 8 < (n : Int) := by omega)
    clear hl h8
    go_enter Try.func8, Try.ntmps8
    go_wp2_with fail
    refine (alive_any _).mono ?_
    rintro e w1 ⟨rfl, hb1⟩
    have h1 := HP.out.below hb1
    have q1 : w1.cell? ⟨w.heap.size, 1, none⟩ = some (.slice A n c) := cell_of_row w1 _ 1 _ _ _ (h1.rows (w.heap.size, #[.int .u64 (m.label : Int), .slice A n c, .slice B k d], 43) (by simp))
    have q2 : w1.cell? ⟨w.heap.size, 2, none⟩ = some (.slice B k d) := cell_of_row w1 _ 2 _ _ _ (h1.rows (w.heap.size, #[.int .u64 (m.label : Int), .slice A n c, .slice B k d], 43) (by simp))
    have H1 := Lib.hid h1
    clear h1 hb1 HP
    go_wp2
    go_ret
    exact ⟨rfl, H1.out.way⟩
set_option maxRecDepth 100000 in
set_option maxHeartbeats 6400000 in
theorem back_short (m : Msg) (A B : Option Addr) (n c k d spot fl : Nat) (b o : Int) (hn : m.words.length = n) (hk : m.items.length = k) (h8 : n ≤ 8) (h2 : k ≤ 2) (mr : MsgR m) (hs : spot < 65536) (hf : fl < 256) (w : World) (hA : SlR w A (u64s m.words)) (hB : SlR w B (itemCells m.items)) :
    Calls Try.prog 8 #[.agg #[.int .u64 (m.label : Int), .slice A n c, .slice B k d], .agg #[.int .i64 b, .int .i64 o], .int .u16 (spot : Int), .int .u8 (fl : Int)] w fun e w' => e = .returned (.bool true) ∧ Below w.heap.size w w' := by
  have hP := ((Pre.start w [] (fun s hs => absurd hs List.not_mem_nil)).alloc #[.int .u64 (m.label : Int), .slice A n c, .slice B k d] 43).alloc #[.int .i64 b, .int .i64 o] 26
  simp only [World.size_alloc] at hP
  have HP := Lib.hid hP
  clear hP
  obtain ⟨a, ha⟩ : ∃ a, a = 8 * (spot % 8161) := ⟨_, rfl⟩
  have HA : Hid (a + 256 ≤ 65536) := Lib.hid (by omega)
  have H8 : Hid (a % 8 = 0) := Lib.hid (by omega)
  obtain ⟨sp, hsp⟩ : ∃ sp, sp = spot % 8161 := ⟨_, rfl⟩
  have s1 : (spot : Int).tmod 8161 = (sp : Int) := by rw [Int.tmod_eq_emod_of_nonneg (by omega)]; omega
  have s3 : (spot : Int) % 8161 = (sp : Int) := by omega
  have s2 : 8 * (sp : Int) = (a : Int) := by omega
  have i0 : (0 : Int) ≤ (spot : Int) := by omega
  have i1 : ∀ _ : Unit, (spot : Int) < 65536 := fun _ => by omega
  have i2 : (sp : Int) ≤ 8160 := by omega
  have i3 : (0 : Int) ≤ (sp : Int) := by omega
  have i8 : (n : Int) ≤ 8 := by omega
  have i9 : (k : Int) ≤ 2 := by omega
  obtain ⟨rm, hrm⟩ : ∃ rm, putOk m = rm := ⟨_, rfl⟩
  obtain ⟨rw_, hrw⟩ : ∃ rw_, winOk ⟨b, o⟩ = rw_ := ⟨_, rfl⟩
  have hall : m.items.all mayI = rm := by rw [← putOk_all (by omega) (by omega)]; exact hrm
  obtain ⟨f0, hf0⟩ : ∃ f0, f0 = fillF (fun _ => 0) 0 65536 fl := ⟨_, rfl⟩
  have E0 := Lib.hid hf0
  have HFL := Lib.hid hf
  have HN := Lib.hid hn
  have HK := Lib.hid hk
  have HR := Lib.hid mr
  have HAs := Lib.hid hA
  have HBs := Lib.hid hB
  have HRM := Lib.hid hrm
  have HRW := Lib.hid hrw
  have HAL := Lib.hid hall
  clear ha hsp hf hn hk h8 h2 mr hs hA hB hrm hrw hall hf0
  go_enter Try.func8, Try.ntmps8
  go_wp2_with fail
  refine (alive_any _).mono ?_
  rintro e w1 ⟨rfl, hb1⟩
  have H1 := Lib.hid (HP.out.below hb1)
  obtain ⟨g4, hg4⟩ : ∃ g4, g4 = w.heap.size := ⟨_, rfl⟩
  obtain ⟨g5, hg5⟩ : ∃ g5, g5 = w.heap.size + 1 := ⟨_, rfl⟩
  rw [← hg5, ← hg4] at H1 ⊢
  have q1 : w1.cell? ⟨g4, 1, none⟩ = some (.slice A n c) := cell_of_row w1 _ 1 _ _ _ (H1.out.rows (g4, #[.int .u64 (m.label : Int), .slice A n c, .slice B k d], 43) (by simp))
  have q2 : w1.cell? ⟨g4, 2, none⟩ = some (.slice B k d) := cell_of_row w1 _ 2 _ _ _ (H1.out.rows (g4, #[.int .u64 (m.label : Int), .slice A n c, .slice B k d], 43) (by simp))
  clear hb1 HP hg4 hg5
  go_wp2_with fail
  refine (new_c H1.out).mono ?_
  rintro e w2 ⟨ga, gb, rfl, h2⟩
  have H2 := Lib.hid h2
  clear h2 H1 q1 q2
  have i1 := i1 ()
  go_wp2_with fail
  clear i1
  refine (fill_c H2.out 0 65536 fl 0 65536 rfl rfl (by omega) HFL.out).mono ?_
  rintro e w3 ⟨rfl, h3⟩
  rw [← E0.out] at h3
  have H3 := Lib.hid h3
  clear h3 H2 s1 s3 i0
  go_wp2_with fail
  refine (at_c H3.out a a rfl HA.out H8.out).mono ?_
  rintro e w4 ⟨bp, rfl, h4⟩
  obtain ⟨R, hR⟩ : ∃ R : List Rw, R = (bp, blkRow ga a, 79) :: (g5, #[.int .i64 b, .int .i64 o], 26) :: (g4, #[.int .u64 (m.label : Int), .slice A n c, .slice B k d], 43) :: [] := ⟨_, rfl⟩
  rw [← hR] at h4
  have Rp : Hid ((bp, blkRow ga a, 79) ∈ R) := Lib.hid (by rw [hR]; simp)
  have R4 : Hid ((g4, #[.int .u64 (m.label : Int), .slice A n c, .slice B k d], 43) ∈ R) := Lib.hid (by rw [hR]; simp)
  have R5 : Hid ((g5, #[.int .i64 b, .int .i64 o], 26) ∈ R) := Lib.hid (by rw [hR]; simp)
  have H4 := Lib.hid h4
  have KC : Hid (∀ (w' : World) (f : Nat → Nat) (S : List Sls), Scn w w' ga gb f R S → w'.cell? ⟨g4, 0, none⟩ = some (.int .u64 (m.label : Int)) ∧ w'.cell? ⟨g4, 1, none⟩ = some (.slice A n c) ∧ w'.cell? ⟨g4, 2, none⟩ = some (.slice B k d) ∧ w'.cell? ⟨g5, 0, none⟩ = some (.int .i64 b) ∧ w'.cell? ⟨g5, 1, none⟩ = some (.int .i64 o)) := Lib.hid (fun w' f S h => ⟨h.cell R4.out 0, h.cell R4.out 1, h.cell R4.out 2, h.cell R5.out 0, h.cell R5.out 1⟩)
  clear h4 H3 hR s2
  go_wp2_with fail
  go_loopw [12, 13] (fun t i wr => ∃ q : Nat, q ≤ k ∧ i = .int .i64 q ∧ t = .bool ((m.items.take q).all mayI) ∧ Scn w wr ga gb f0 R []) (fun _ i _ => k - (intOf i).toNat)
  case atStart => exact ⟨0, Nat.zero_le _, rfl, rfl, H4.out⟩
  case round =>
    obtain ⟨q, hq, rfl, rfl, hs⟩ := hrel
    have HS := Lib.hid hs
    obtain ⟨q0, q1, q2, q3, q4⟩ := KC.out _ _ _ hs
    by_cases hlt : q < k
    · have hql : q < m.items.length := by rw [HK.out]; exact hlt
      obtain ⟨bi, off, rfl, _, hc⟩ := (hs.arg HBs.out).item hql
      have T : Hid ((m.items.take (q + 1)).all mayI = ((m.items.take q).all mayI && mayI m.items[q])) := Lib.hid (by rw [List.take_succ_eq_append_getElem hql, List.all_append]; simp)
      obtain ⟨it, hit⟩ : ∃ it, m.items[q] = it := ⟨_, rfl⟩
      obtain ⟨rb, hrb⟩ : ∃ rb, (m.items.take q).all mayI = rb := ⟨_, rfl⟩
      obtain ⟨ri, hri⟩ : ∃ ri, mayI it = ri := ⟨_, rfl⟩
      obtain ⟨x, hx⟩ : ∃ x, codeX it = x := ⟨_, rfl⟩
      rw [hit] at hc T
      rw [hrb] at T ⊢
      rw [hri] at T
      obtain ⟨c0, c1, c2, c3, c4⟩ := hc
      have HRI := Lib.hid hri
      have HXX := Lib.hid hx
      have j1 : (q : Int) < (k : Int) := by omega
      clear hs hit hrb hri hx
      cases rb
      all_goals
        go_wp2_with fail
        refine (code_c HS.out it x ri HXX.out HRI.out).mono ?_
        rintro e w5 ⟨rfl, h5⟩
        have H5 := Lib.hid h5
        clear h5 c0 c1 c2 c3 c4 q0 q1 q2 q3 q4
        go_wp2
        refine ⟨⟨q + 1, by omega, by go_num, by rw [T.out]; first | rfl | simp, H5.out⟩, by simp [intOf]; omega⟩
    · have hqk : k = q := by omega
      subst hqk
      rw [show (m.items.take k).all mayI = rm by rw [List.take_of_length_le (by have := HK.out; omega)]; exact HAL.out]
      have j1 : ¬ (k : Int) < (k : Int) := by omega
      clear hs hlt hq
      cases rm <;> cases rw_
      · have EO : Hid (openE ⟨b, o⟩ = 1) := Lib.hid (by unfold openE; rw [HRW.out]; rfl)
        have EP : Hid (putE m = 1) := Lib.hid (by unfold putE; rw [HRM.out]; rfl)
        obtain ⟨f1, hf1⟩ : ∃ f1, f1 = openU f0 a ⟨b, o⟩ := ⟨_, rfl⟩
        obtain ⟨f2, hf2⟩ : ∃ f2, f2 = putU f1 a m := ⟨_, rfl⟩
        have E1 := Lib.hid hf1
        have E2 := Lib.hid hf2
        clear hf1 hf2
        go_wp2_with fail
        clear q0 q1 q2 q3 q4
        have hS := HS.out
        have hSd := HS.out.drew
        go_region_held3 (fun w' => w'.cell? ⟨g4, 0, none⟩ = some (.int .u64 (m.label : Int)) ∧ w'.cell? ⟨g4, 1, none⟩ = some (.slice A n c) ∧ w'.cell? ⟨g4, 2, none⟩ = some (.slice B k d) ∧ w'.cell? ⟨g5, 0, none⟩ = some (.int .i64 b) ∧ w'.cell? ⟨g5, 1, none⟩ = some (.int .i64 o)) (exact KC.out _ _ _ (by assumption)) (first | (go_at_call 20; (with_reducible refine (open_u (by assumption) Rp.out HA.out H8.out b o 1 EO.out).mono ?_); rintro e w5 ⟨rfl, h5⟩; rw [← E1.out] at h5) | (go_at_call 17; (with_reducible refine (put_c (by assumption) Rp.out HA.out H8.out m HR.out 1 EP.out m.label rfl A B n c k d HN.out HK.out (by omega) (Scn.arg (by assumption) HAs.out) (Scn.arg (by assumption) HBs.out)).mono ?_); rintro e w6 ⟨rfl, h6⟩; rw [← E2.out] at h6))
        have H6 := Lib.hid h6
        obtain ⟨q0, q1, q2, q3, q4⟩ := KC.out _ _ _ h6
        clear hS hSd h5 h6 HS
        go_wp2_with fail
        refine (may_c H6.out b o false HRW.out).mono ?_
        rintro e w7 ⟨rfl, h7⟩
        have H7 := Lib.hid h7
        clear h7 H6 q0 q1 q2 q3 q4
        go_wp2_with fail
        have hS := H7.out
        have hSd := H7.out.drew
        refine wp_region_held_drew (S := (fun w' => w'.cell? ⟨g4, 0, none⟩ = some (.int .u64 (m.label : Int)) ∧ w'.cell? ⟨g4, 1, none⟩ = some (.slice A n c) ∧ w'.cell? ⟨g4, 2, none⟩ = some (.slice B k d) ∧ w'.cell? ⟨g5, 0, none⟩ = some (.int .i64 b) ∧ w'.cell? ⟨g5, 1, none⟩ = some (.int .i64 o))) (by kernel_rfl) (KC.out _ _ _ hSd) (fun hHeld => ?_)
        refine wpAnyH_take (i := 0) (oi := { dst := some 86, op := Op.move (Operand.tmp 12), type := 4, pos := "law.go:142", after := #[], guard := none }) (v := ?_) rfl (by kernel_rfl) (by kernel_rfl) (by kernel_rfl) (fun _ _ _ h => h) (Or.inl ⟨by rfl, ?_⟩) hHeld ?_
        rotate_left
        · intro w hSw
          (try dsimp only at hSw)
          go_simp
          try with_reducible rfl
        try simp only [Act.put, List.setIfInBounds_toArray, List.set_cons_zero, List.set_cons_succ]
        refine wpAnyH_take (i := 1) (oi := { dst := some 87, op := Op.move (Operand.tmp 86), type := 4, pos := "law.go:142", after := #[{ on := 0, ground := Ground.data }], guard := none }) (v := ?_) rfl (by kernel_rfl) (by kernel_rfl) (by kernel_rfl) (fun _ _ _ h => h) (Or.inl ⟨by rfl, ?_⟩) hHeld ?_
        rotate_left
        · intro w hSw
          (try dsimp only at hSw)
          go_simp
          try with_reducible rfl
        try simp only [Act.put, List.setIfInBounds_toArray, List.set_cons_zero, List.set_cons_succ]
        refine wpAnyH_take (i := 2) (oi := { dst := some 88, op := Op.move (Operand.tmp 11), type := 36, pos := "law.go:142", after := #[{ on := 1, ground := Ground.guard }], guard := some (1, true) }) (v := undef) rfl (by kernel_rfl) (by kernel_rfl) (by kernel_rfl) (fun _ _ _ h => h) (Or.inr ⟨by rfl, rfl⟩) hHeld ?_
        try simp only [Act.put, List.setIfInBounds_toArray, List.set_cons_zero, List.set_cons_succ]
        refine wpAnyH_take (i := 3) (oi := { dst := some 89, op := Op.call { callee := Callee.value (Operand.func 19), args := #[Operand.tmp 88], argTypes := #[36] }, type := 43, pos := "law.go:142", after := #[{ on := 2, ground := Ground.data }, { on := 1, ground := Ground.chain }, { on := 1, ground := Ground.guard }], guard := some (1, true) }) (v := undef) rfl (by kernel_rfl) (by kernel_rfl) (by kernel_rfl) (fun _ _ _ h => h) (Or.inr ⟨by rfl, rfl⟩) hHeld ?_
        try simp only [Act.put, List.setIfInBounds_toArray, List.set_cons_zero, List.set_cons_succ]
        refine wpAnyH_take (i := 4) (oi := { dst := some 90, op := Op.load 43 (Operand.tmp 4), type := 43, pos := "law.go:142", after := #[{ on := 1, ground := Ground.guard }], guard := some (1, true) }) (v := undef) rfl (by kernel_rfl) (by kernel_rfl) (by kernel_rfl) (fun _ _ _ h => h) (Or.inr ⟨by rfl, rfl⟩) hHeld ?_
        try simp only [Act.put, List.setIfInBounds_toArray, List.set_cons_zero, List.set_cons_succ]
        refine wpAnyH_take (i := 5) (oi := { dst := some 91, op := Op.call { callee := Callee.value (Operand.func 18), args := #[Operand.tmp 89, Operand.tmp 90], argTypes := #[43, 43] }, type := 4, pos := "law.go:142", after := #[{ on := 3, ground := Ground.data }, { on := 4, ground := Ground.data }, { on := 3, ground := Ground.chain }, { on := 1, ground := Ground.guard }], guard := some (1, true) }) (v := undef) rfl (by kernel_rfl) (by kernel_rfl) (by kernel_rfl) (fun _ _ _ h => h) (Or.inr ⟨by rfl, rfl⟩) hHeld ?_
        try simp only [Act.put, List.setIfInBounds_toArray, List.set_cons_zero, List.set_cons_succ]
        refine wpAnyH_take (i := 6) (oi := { dst := some 92, op := Op.unOp UnOp.not 4 (Operand.tmp 91), type := 4, pos := "law.go:142", after := #[{ on := 5, ground := Ground.data }, { on := 1, ground := Ground.guard }], guard := some (1, true) }) (v := undef) rfl (by kernel_rfl) (by kernel_rfl) (by kernel_rfl) (fun _ _ _ h => h) (Or.inr ⟨by rfl, rfl⟩) hHeld ?_
        try simp only [Act.put, List.setIfInBounds_toArray, List.set_cons_zero, List.set_cons_succ]
        refine wpAnyH_take (i := 7) (oi := { dst := some 93, op := Op.pick (Operand.tmp 87) (Operand.tmp 92) (Operand.const (Value.bool false)), type := 4, pos := "law.go:142", after := #[{ on := 1, ground := Ground.data }, { on := 6, ground := Ground.data }], guard := none }) (v := ?_) rfl (by kernel_rfl) (by kernel_rfl) (by kernel_rfl) (fun _ _ _ h => h) (Or.inl ⟨by rfl, ?_⟩) hHeld ?_
        rotate_left
        · intro w hSw
          (try dsimp only at hSw)
          go_simp
          try with_reducible rfl
        try simp only [Act.put, List.setIfInBounds_toArray, List.set_cons_zero, List.set_cons_succ]
        refine wpAnyH_take (i := 8) (oi := { dst := some 94, op := Op.move (Operand.tmp 93), type := 4, pos := "law.go:142", after := #[{ on := 7, ground := Ground.data }, { on := 5, ground := Ground.chain }], guard := none }) (v := ?_) rfl (by kernel_rfl) (by kernel_rfl) (by kernel_rfl) (fun _ _ _ h => h) (Or.inl ⟨by rfl, ?_⟩) hHeld ?_
        rotate_left
        · intro w hSw
          (try dsimp only at hSw)
          go_simp
          try with_reducible rfl
        try simp only [Act.put, List.setIfInBounds_toArray, List.set_cons_zero, List.set_cons_succ]
        refine wpAnyH_take (i := 9) (oi := { dst := some 95, op := Op.move (Operand.tmp 16), type := 37, pos := "law.go:142", after := #[{ on := 8, ground := Ground.guard }], guard := some (8, false) }) (v := ?_) rfl (by kernel_rfl) (by kernel_rfl) (by kernel_rfl) (fun _ _ _ h => h) (Or.inl ⟨by rfl, ?_⟩) hHeld ?_
        rotate_left
        · intro w hSw
          (try dsimp only at hSw)
          go_simp
          try with_reducible rfl
        try simp only [Act.put, List.setIfInBounds_toArray, List.set_cons_zero, List.set_cons_succ]
        refine wpAnyH_take (i := 10) (oi := { dst := some 96, op := Op.binOp BinOp.eql 37 (Operand.tmp 95) (Operand.const (Value.int IntKind.i64 0)) 37, type := 4, pos := "law.go:142", after := #[{ on := 9, ground := Ground.data }, { on := 8, ground := Ground.guard }], guard := some (8, false) }) (v := ?_) rfl (by kernel_rfl) (by kernel_rfl) (by kernel_rfl) (fun _ _ _ h => h) (Or.inl ⟨by rfl, ?_⟩) hHeld ?_
        rotate_left
        · intro w hSw
          (try dsimp only at hSw)
          go_simp
          try with_reducible rfl
        try simp only [Act.put, List.setIfInBounds_toArray, List.set_cons_zero, List.set_cons_succ]
        refine wpAnyH_take (i := 11) (oi := { dst := some 97, op := Op.move (Operand.tmp 96), type := 4, pos := "law.go:142", after := #[{ on := 10, ground := Ground.data }, { on := 8, ground := Ground.chain }, { on := 8, ground := Ground.guard }], guard := some (8, false) }) (v := ?_) rfl (by kernel_rfl) (by kernel_rfl) (by kernel_rfl) (fun _ _ _ h => h) (Or.inl ⟨by rfl, ?_⟩) hHeld ?_
        rotate_left
        · intro w hSw
          (try dsimp only at hSw)
          go_simp
          try with_reducible rfl
        try simp only [Act.put, List.setIfInBounds_toArray, List.set_cons_zero, List.set_cons_succ]
        refine wpAnyH_take (i := 12) (oi := { dst := some 98, op := Op.move (Operand.tmp 11), type := 36, pos := "law.go:142", after := #[{ on := 11, ground := Ground.guard }], guard := some (11, true) }) (v := undef) rfl (by kernel_rfl) (by kernel_rfl) (by kernel_rfl) (fun _ _ _ h => h) (Or.inr ⟨by rfl, rfl⟩) hHeld ?_
        try simp only [Act.put, List.setIfInBounds_toArray, List.set_cons_zero, List.set_cons_succ]
        refine wpAnyH_take (i := 13) (oi := { dst := some 99, op := Op.call { callee := Callee.value (Operand.func 21), args := #[Operand.tmp 98], argTypes := #[36] }, type := 26, pos := "law.go:142", after := #[{ on := 12, ground := Ground.data }, { on := 11, ground := Ground.chain }, { on := 11, ground := Ground.guard }], guard := some (11, true) }) (v := undef) rfl (by kernel_rfl) (by kernel_rfl) (by kernel_rfl) (fun _ _ _ h => h) (Or.inr ⟨by rfl, rfl⟩) hHeld ?_
        try simp only [Act.put, List.setIfInBounds_toArray, List.set_cons_zero, List.set_cons_succ]
        refine wpAnyH_take (i := 14) (oi := { dst := some 100, op := Op.load 26 (Operand.tmp 5), type := 26, pos := "law.go:142", after := #[{ on := 11, ground := Ground.guard }], guard := some (11, true) }) (v := undef) rfl (by kernel_rfl) (by kernel_rfl) (by kernel_rfl) (fun _ _ _ h => h) (Or.inr ⟨by rfl, rfl⟩) hHeld ?_
        try simp only [Act.put, List.setIfInBounds_toArray, List.set_cons_zero, List.set_cons_succ]
        refine wpAnyH_take (i := 15) (oi := { dst := some 101, op := Op.binOp BinOp.neq 26 (Operand.tmp 99) (Operand.tmp 100) 26, type := 4, pos := "law.go:142", after := #[{ on := 13, ground := Ground.data }, { on := 14, ground := Ground.data }, { on := 11, ground := Ground.guard }], guard := some (11, true) }) (v := undef) rfl (by kernel_rfl) (by kernel_rfl) (by kernel_rfl) (fun _ _ _ h => h) (Or.inr ⟨by rfl, rfl⟩) hHeld ?_
        try simp only [Act.put, List.setIfInBounds_toArray, List.set_cons_zero, List.set_cons_succ]
        refine wpAnyH_take (i := 16) (oi := { dst := some 102, op := Op.pick (Operand.tmp 97) (Operand.tmp 101) (Operand.const (Value.bool false)), type := 4, pos := "law.go:142", after := #[{ on := 11, ground := Ground.data }, { on := 15, ground := Ground.data }, { on := 8, ground := Ground.guard }], guard := some (8, false) }) (v := ?_) rfl (by kernel_rfl) (by kernel_rfl) (by kernel_rfl) (fun _ _ _ h => h) (Or.inl ⟨by rfl, ?_⟩) hHeld ?_
        rotate_left
        · intro w hSw
          (try dsimp only at hSw)
          go_simp
          try with_reducible rfl
        try simp only [Act.put, List.setIfInBounds_toArray, List.set_cons_zero, List.set_cons_succ]
        refine wpAnyH_take (i := 17) (oi := { dst := some 103, op := Op.pick (Operand.tmp 94) (Operand.const (Value.bool true)) (Operand.tmp 102), type := 4, pos := "law.go:142", after := #[{ on := 8, ground := Ground.data }, { on := 16, ground := Ground.data }], guard := none }) (v := ?_) rfl (by kernel_rfl) (by kernel_rfl) (by kernel_rfl) (fun _ _ _ h => h) (Or.inl ⟨by rfl, ?_⟩) hHeld ?_
        rotate_left
        · intro w hSw
          (try dsimp only at hSw)
          go_simp
          try with_reducible rfl
        try simp only [Act.put, List.setIfInBounds_toArray, List.set_cons_zero, List.set_cons_succ]
        refine wpAnyH_done (by kernel_rfl) ?_ _
        have HE := Lib.hid (hSd.sub (S' := []) (fun _ h => h) (fun _ h => absurd h List.not_mem_nil))
        obtain ⟨v2, hv2⟩ : ∃ v2, winX (wd f2 a 2) = v2 := ⟨_, rfl⟩
        obtain ⟨Z, hZ⟩ : ∃ Z : Msg, Z = ⟨1, [], []⟩ := ⟨_, rfl⟩
        obtain ⟨f3, hf3⟩ : ∃ f3, f3 = putU f2 a Z := ⟨_, rfl⟩
        obtain ⟨f4, hf4⟩ : ∃ f4, f4 = openU f3 a ⟨4, 2⟩ := ⟨_, rfl⟩
        have HV2 := Lib.hid hv2
        have HV3 : Hid (winX (wd f3 a 2) = v2) := Lib.hid (by rw [hf3, two_putU]; exact hv2)
        have F4 : Hid (getM (wd f4 a) = Z) := Lib.hid (by rw [hf4, hf3, hZ]; exact one_get f2 a)
        have E3 := Lib.hid hf3
        have E4 := Lib.hid hf4
        have ZR : Hid (MsgR Z) := Lib.hid (by rw [hZ]; exact ⟨by decide, by decide⟩)
        have ZE : Hid (putE Z = 0) := Lib.hid (by rw [hZ]; decide)
        have Zl : Hid ((Z.label : Int) = 1) := Lib.hid (by rw [hZ]; rfl)
        have Zn : Hid (Z.words.length = 0) := Lib.hid (by rw [hZ]; rfl)
        have Zk : Hid (Z.items.length = 0) := Lib.hid (by rw [hZ]; rfl)
        have ZA : Hid (∀ w : World, SlR w none (u64s Z.words)) := Lib.hid (by rw [hZ]; exact fun _ h => absurd rfl h)
        have ZI : Hid (∀ w : World, SlR w none (itemCells Z.items)) := Lib.hid (by rw [hZ]; exact fun _ h => absurd rfl h)
        clear hv2 hZ hf3 hf4 hS hSd
        go_wp2_with fail
        refine (window_c HE.out Rp.out HA.out H8.out v2 HV2.out).mono ?_
        rintro e w13 ⟨rfl, h13⟩
        have h14 := h13.alloc #[.int .i64 v2.base, .int .i64 v2.order] 26
        obtain ⟨g18, hg18⟩ : ∃ g18, g18 = w13.heap.size := ⟨_, rfl⟩
        rw [← hg18] at h14
        obtain ⟨R2, hR2⟩ : ∃ R2 : List Rw, R2 = (g18, #[.int .i64 v2.base, .int .i64 v2.order], 26) :: R := ⟨_, rfl⟩
        rw [← hR2] at h14
        have Rp2 : Hid ((bp, blkRow ga a, 79) ∈ R2) := Lib.hid (by rw [hR2]; exact List.mem_cons_of_mem _ Rp.out)
        have R18 : Hid ((g18, #[.int .i64 v2.base, .int .i64 v2.order], 26) ∈ R2) := Lib.hid (by rw [hR2]; exact List.mem_cons_self)
        have H14 := Lib.hid h14
        clear h13 h14 hR2 HE
        go_wp2_with fail
        rw [← hg18]
        clear hg18
        refine (put_c H14.out Rp2.out HA.out H8.out Z ZR.out 0 ZE.out 1 Zl.out none none 0 0 0 0 Zn.out Zk.out (by omega) (ZA.out _) (ZI.out _)).mono ?_
        rintro e w15 ⟨rfl, h15⟩
        rw [← E3.out] at h15
        have H15 := Lib.hid h15
        clear h15 H14
        go_wp2_with fail
        have hS := H15.out
        have hSd := H15.out.drew
        have re := run_eq_wnd v2
        have KD : Hid (∀ (w' : World) (f : Nat → Nat) (S : List Sls), Scn w w' ga gb f R2 S → w'.cell? ⟨g18, 0, none⟩ = some (.int .i64 v2.base) ∧ w'.cell? ⟨g18, 1, none⟩ = some (.int .i64 v2.order)) := Lib.hid (fun w' f S h => ⟨h.cell R18.out 0, h.cell R18.out 1⟩)
        go_region_held3 (fun w' => w'.cell? ⟨g18, 0, none⟩ = some (.int .i64 v2.base) ∧ w'.cell? ⟨g18, 1, none⟩ = some (.int .i64 v2.order)) (exact KD.out _ _ _ (by assumption)) (first | (go_at_call 21; (with_reducible refine (window_c (by assumption) Rp2.out HA.out H8.out v2 HV3.out).mono ?_); rintro e w16 ⟨rfl, h16⟩) | (go_at_call 20; (with_reducible refine (open_u (by assumption) Rp2.out HA.out H8.out 4 2 0 (by decide)).mono ?_); rintro e w17 ⟨rfl, h17⟩; rw [← E4.out] at h17) | (go_at_call 19; (with_reducible refine (get_c (by assumption) Rp2.out HA.out H8.out Z F4.out 1 Zl.out 0 0 Zn.out Zk.out).mono ?_); rintro e w18 ⟨A3, B3, c3, d3, rfl, h18⟩) | (go_at_call 18; (with_reducible refine (same_c (by assumption) Z Z true (sameM_self Z) 1 1 Zl.out Zl.out _ _ _ _ 0 0 0 0 _ _ _ _ Zn.out Zn.out Zk.out Zk.out (by omega) (by omega) (by omega) (by omega) (Scn.s0 (by assumption)) (ZA.out _) (Scn.s1 (by assumption)) (ZI.out _)).mono ?_); rintro e w19 ⟨rfl, h19⟩))
        all_goals
          go_wp2
          go_ret
          exact ⟨rfl, h19.way⟩
      · have EO : Hid (openE ⟨b, o⟩ = 0) := Lib.hid (by unfold openE; rw [HRW.out]; rfl)
        have EP : Hid (putE m = 1) := Lib.hid (by unfold putE; rw [HRM.out]; rfl)
        obtain ⟨f1, hf1⟩ : ∃ f1, f1 = openU f0 a ⟨b, o⟩ := ⟨_, rfl⟩
        obtain ⟨f2, hf2⟩ : ∃ f2, f2 = putU f1 a m := ⟨_, rfl⟩
        have VW : Hid (winX (wd f2 a 2) = ⟨b, o⟩) := Lib.hid (by rw [hf2, two_putU, hf1]; unfold openU; rw [if_pos HRW.out]; exact win_openF _ _ _ HRW.out)
        have E1 := Lib.hid hf1
        have E2 := Lib.hid hf2
        clear hf1 hf2
        go_wp2_with fail
        clear q0 q1 q2 q3 q4
        have hS := HS.out
        have hSd := HS.out.drew
        go_region_held3 (fun w' => w'.cell? ⟨g4, 0, none⟩ = some (.int .u64 (m.label : Int)) ∧ w'.cell? ⟨g4, 1, none⟩ = some (.slice A n c) ∧ w'.cell? ⟨g4, 2, none⟩ = some (.slice B k d) ∧ w'.cell? ⟨g5, 0, none⟩ = some (.int .i64 b) ∧ w'.cell? ⟨g5, 1, none⟩ = some (.int .i64 o)) (exact KC.out _ _ _ (by assumption)) (first | (go_at_call 20; (with_reducible refine (open_u (by assumption) Rp.out HA.out H8.out b o 0 EO.out).mono ?_); rintro e w5 ⟨rfl, h5⟩; rw [← E1.out] at h5) | (go_at_call 17; (with_reducible refine (put_c (by assumption) Rp.out HA.out H8.out m HR.out 1 EP.out m.label rfl A B n c k d HN.out HK.out (by omega) (Scn.arg (by assumption) HAs.out) (Scn.arg (by assumption) HBs.out)).mono ?_); rintro e w6 ⟨rfl, h6⟩; rw [← E2.out] at h6))
        have H6 := Lib.hid h6
        obtain ⟨q0, q1, q2, q3, q4⟩ := KC.out _ _ _ h6
        clear hS hSd h5 h6 HS
        go_wp2_with fail
        refine (may_c H6.out b o true HRW.out).mono ?_
        rintro e w7 ⟨rfl, h7⟩
        have H7 := Lib.hid h7
        clear h7 H6 q0 q1 q2 q3 q4
        go_wp2_with fail
        have hS := H7.out
        have hSd := H7.out.drew
        have rn := run_neq_wnd ⟨b, o⟩
        refine wp_region_held_drew (S := (fun w' => w'.cell? ⟨g4, 0, none⟩ = some (.int .u64 (m.label : Int)) ∧ w'.cell? ⟨g4, 1, none⟩ = some (.slice A n c) ∧ w'.cell? ⟨g4, 2, none⟩ = some (.slice B k d) ∧ w'.cell? ⟨g5, 0, none⟩ = some (.int .i64 b) ∧ w'.cell? ⟨g5, 1, none⟩ = some (.int .i64 o))) (by kernel_rfl) (KC.out _ _ _ hSd) (fun hHeld => ?_)
        refine wpAnyH_take (i := 0) (oi := { dst := some 86, op := Op.move (Operand.tmp 12), type := 4, pos := "law.go:142", after := #[], guard := none }) (v := ?_) rfl (by kernel_rfl) (by kernel_rfl) (by kernel_rfl) (fun _ _ _ h => h) (Or.inl ⟨by rfl, ?_⟩) hHeld ?_
        rotate_left
        · intro w hSw
          (try dsimp only at hSw)
          go_simp
          try with_reducible rfl
        try simp only [Act.put, List.setIfInBounds_toArray, List.set_cons_zero, List.set_cons_succ]
        refine wpAnyH_take (i := 1) (oi := { dst := some 87, op := Op.move (Operand.tmp 86), type := 4, pos := "law.go:142", after := #[{ on := 0, ground := Ground.data }], guard := none }) (v := ?_) rfl (by kernel_rfl) (by kernel_rfl) (by kernel_rfl) (fun _ _ _ h => h) (Or.inl ⟨by rfl, ?_⟩) hHeld ?_
        rotate_left
        · intro w hSw
          (try dsimp only at hSw)
          go_simp
          try with_reducible rfl
        try simp only [Act.put, List.setIfInBounds_toArray, List.set_cons_zero, List.set_cons_succ]
        refine wpAnyH_take (i := 2) (oi := { dst := some 88, op := Op.move (Operand.tmp 11), type := 36, pos := "law.go:142", after := #[{ on := 1, ground := Ground.guard }], guard := some (1, true) }) (v := undef) rfl (by kernel_rfl) (by kernel_rfl) (by kernel_rfl) (fun _ _ _ h => h) (Or.inr ⟨by rfl, rfl⟩) hHeld ?_
        try simp only [Act.put, List.setIfInBounds_toArray, List.set_cons_zero, List.set_cons_succ]
        refine wpAnyH_take (i := 3) (oi := { dst := some 89, op := Op.call { callee := Callee.value (Operand.func 19), args := #[Operand.tmp 88], argTypes := #[36] }, type := 43, pos := "law.go:142", after := #[{ on := 2, ground := Ground.data }, { on := 1, ground := Ground.chain }, { on := 1, ground := Ground.guard }], guard := some (1, true) }) (v := undef) rfl (by kernel_rfl) (by kernel_rfl) (by kernel_rfl) (fun _ _ _ h => h) (Or.inr ⟨by rfl, rfl⟩) hHeld ?_
        try simp only [Act.put, List.setIfInBounds_toArray, List.set_cons_zero, List.set_cons_succ]
        refine wpAnyH_take (i := 4) (oi := { dst := some 90, op := Op.load 43 (Operand.tmp 4), type := 43, pos := "law.go:142", after := #[{ on := 1, ground := Ground.guard }], guard := some (1, true) }) (v := undef) rfl (by kernel_rfl) (by kernel_rfl) (by kernel_rfl) (fun _ _ _ h => h) (Or.inr ⟨by rfl, rfl⟩) hHeld ?_
        try simp only [Act.put, List.setIfInBounds_toArray, List.set_cons_zero, List.set_cons_succ]
        refine wpAnyH_take (i := 5) (oi := { dst := some 91, op := Op.call { callee := Callee.value (Operand.func 18), args := #[Operand.tmp 89, Operand.tmp 90], argTypes := #[43, 43] }, type := 4, pos := "law.go:142", after := #[{ on := 3, ground := Ground.data }, { on := 4, ground := Ground.data }, { on := 3, ground := Ground.chain }, { on := 1, ground := Ground.guard }], guard := some (1, true) }) (v := undef) rfl (by kernel_rfl) (by kernel_rfl) (by kernel_rfl) (fun _ _ _ h => h) (Or.inr ⟨by rfl, rfl⟩) hHeld ?_
        try simp only [Act.put, List.setIfInBounds_toArray, List.set_cons_zero, List.set_cons_succ]
        refine wpAnyH_take (i := 6) (oi := { dst := some 92, op := Op.unOp UnOp.not 4 (Operand.tmp 91), type := 4, pos := "law.go:142", after := #[{ on := 5, ground := Ground.data }, { on := 1, ground := Ground.guard }], guard := some (1, true) }) (v := undef) rfl (by kernel_rfl) (by kernel_rfl) (by kernel_rfl) (fun _ _ _ h => h) (Or.inr ⟨by rfl, rfl⟩) hHeld ?_
        try simp only [Act.put, List.setIfInBounds_toArray, List.set_cons_zero, List.set_cons_succ]
        refine wpAnyH_take (i := 7) (oi := { dst := some 93, op := Op.pick (Operand.tmp 87) (Operand.tmp 92) (Operand.const (Value.bool false)), type := 4, pos := "law.go:142", after := #[{ on := 1, ground := Ground.data }, { on := 6, ground := Ground.data }], guard := none }) (v := ?_) rfl (by kernel_rfl) (by kernel_rfl) (by kernel_rfl) (fun _ _ _ h => h) (Or.inl ⟨by rfl, ?_⟩) hHeld ?_
        rotate_left
        · intro w hSw
          (try dsimp only at hSw)
          go_simp
          try with_reducible rfl
        try simp only [Act.put, List.setIfInBounds_toArray, List.set_cons_zero, List.set_cons_succ]
        refine wpAnyH_take (i := 8) (oi := { dst := some 94, op := Op.move (Operand.tmp 93), type := 4, pos := "law.go:142", after := #[{ on := 7, ground := Ground.data }, { on := 5, ground := Ground.chain }], guard := none }) (v := ?_) rfl (by kernel_rfl) (by kernel_rfl) (by kernel_rfl) (fun _ _ _ h => h) (Or.inl ⟨by rfl, ?_⟩) hHeld ?_
        rotate_left
        · intro w hSw
          (try dsimp only at hSw)
          go_simp
          try with_reducible rfl
        try simp only [Act.put, List.setIfInBounds_toArray, List.set_cons_zero, List.set_cons_succ]
        refine wpAnyH_take (i := 9) (oi := { dst := some 95, op := Op.move (Operand.tmp 16), type := 37, pos := "law.go:142", after := #[{ on := 8, ground := Ground.guard }], guard := some (8, false) }) (v := ?_) rfl (by kernel_rfl) (by kernel_rfl) (by kernel_rfl) (fun _ _ _ h => h) (Or.inl ⟨by rfl, ?_⟩) hHeld ?_
        rotate_left
        · intro w hSw
          (try dsimp only at hSw)
          go_simp
          try with_reducible rfl
        try simp only [Act.put, List.setIfInBounds_toArray, List.set_cons_zero, List.set_cons_succ]
        refine wpAnyH_take (i := 10) (oi := { dst := some 96, op := Op.binOp BinOp.eql 37 (Operand.tmp 95) (Operand.const (Value.int IntKind.i64 0)) 37, type := 4, pos := "law.go:142", after := #[{ on := 9, ground := Ground.data }, { on := 8, ground := Ground.guard }], guard := some (8, false) }) (v := ?_) rfl (by kernel_rfl) (by kernel_rfl) (by kernel_rfl) (fun _ _ _ h => h) (Or.inl ⟨by rfl, ?_⟩) hHeld ?_
        rotate_left
        · intro w hSw
          (try dsimp only at hSw)
          go_simp
          try with_reducible rfl
        try simp only [Act.put, List.setIfInBounds_toArray, List.set_cons_zero, List.set_cons_succ]
        refine wpAnyH_take (i := 11) (oi := { dst := some 97, op := Op.move (Operand.tmp 96), type := 4, pos := "law.go:142", after := #[{ on := 10, ground := Ground.data }, { on := 8, ground := Ground.chain }, { on := 8, ground := Ground.guard }], guard := some (8, false) }) (v := ?_) rfl (by kernel_rfl) (by kernel_rfl) (by kernel_rfl) (fun _ _ _ h => h) (Or.inl ⟨by rfl, ?_⟩) hHeld ?_
        rotate_left
        · intro w hSw
          (try dsimp only at hSw)
          go_simp
          try with_reducible rfl
        try simp only [Act.put, List.setIfInBounds_toArray, List.set_cons_zero, List.set_cons_succ]
        refine wpAnyH_take (i := 12) (oi := { dst := some 98, op := Op.move (Operand.tmp 11), type := 36, pos := "law.go:142", after := #[{ on := 11, ground := Ground.guard }], guard := some (11, true) }) (v := ?_) rfl (by kernel_rfl) (by kernel_rfl) (by kernel_rfl) (fun _ _ _ h => h) (Or.inl ⟨by rfl, ?_⟩) hHeld ?_
        rotate_left
        · intro w hSw
          (try dsimp only at hSw)
          go_simp
          try with_reducible rfl
        try simp only [Act.put, List.setIfInBounds_toArray, List.set_cons_zero, List.set_cons_succ]
        refine wpAnyH_take (i := 14) (oi := { dst := some 100, op := Op.load 26 (Operand.tmp 5), type := 26, pos := "law.go:142", after := #[{ on := 11, ground := Ground.guard }], guard := some (11, true) }) (v := ?_) rfl (by kernel_rfl) (by kernel_rfl) (by kernel_rfl) (fun _ _ _ h => h) (Or.inl ⟨by rfl, ?_⟩) hHeld ?_
        rotate_left
        · intro w hSw
          (try dsimp only at hSw)
          go_simp
          try with_reducible rfl
        try simp only [Act.put, List.setIfInBounds_toArray, List.set_cons_zero, List.set_cons_succ]
        refine wpAnyH_ready (rs := [13]) (by kernel_rfl) (by simp) ?_
        refine AllReadyH.cons (o := { dst := some 99, op := Op.call { callee := Callee.value (Operand.func 21), args := #[Operand.tmp 98], argTypes := #[36] }, type := 26, pos := "law.go:142", after := #[{ on := 12, ground := Ground.data }, { on := 11, ground := Ground.chain }, { on := 11, ground := Ground.guard }], guard := some (11, true) }) rfl (fun K hK => ?_) ?_
        rotate_left
        · exact AllReadyH.nil
        go_simp
        go_at_call 21; refine (window_c (by assumption) Rp.out HA.out H8.out ⟨b, o⟩ VW.out).mono ?_; rintro e w12 ⟨rfl, h12⟩
        try go_simp
        refine hK.out _ _ (KC.out _ _ _ (by assumption)) (fun hHeld => ?_)
        clear hK K
        try simp only [Act.put, List.setIfInBounds_toArray, List.set_cons_zero, List.set_cons_succ]
        refine wpAnyH_take (i := 15) (oi := { dst := some 101, op := Op.binOp BinOp.neq 26 (Operand.tmp 99) (Operand.tmp 100) 26, type := 4, pos := "law.go:142", after := #[{ on := 13, ground := Ground.data }, { on := 14, ground := Ground.data }, { on := 11, ground := Ground.guard }], guard := some (11, true) }) (v := ?_) rfl (by kernel_rfl) (by kernel_rfl) (by kernel_rfl) (fun _ _ _ h => h) (Or.inl ⟨by rfl, ?_⟩) hHeld ?_
        rotate_left
        · intro w hSw
          (try dsimp only at hSw)
          go_simp
          try with_reducible rfl
        try simp only [Act.put, List.setIfInBounds_toArray, List.set_cons_zero, List.set_cons_succ]
        refine wpAnyH_take (i := 16) (oi := { dst := some 102, op := Op.pick (Operand.tmp 97) (Operand.tmp 101) (Operand.const (Value.bool false)), type := 4, pos := "law.go:142", after := #[{ on := 11, ground := Ground.data }, { on := 15, ground := Ground.data }, { on := 8, ground := Ground.guard }], guard := some (8, false) }) (v := ?_) rfl (by kernel_rfl) (by kernel_rfl) (by kernel_rfl) (fun _ _ _ h => h) (Or.inl ⟨by rfl, ?_⟩) hHeld ?_
        rotate_left
        · intro w hSw
          (try dsimp only at hSw)
          go_simp
          try with_reducible rfl
        try simp only [Act.put, List.setIfInBounds_toArray, List.set_cons_zero, List.set_cons_succ]
        refine wpAnyH_take (i := 17) (oi := { dst := some 103, op := Op.pick (Operand.tmp 94) (Operand.const (Value.bool true)) (Operand.tmp 102), type := 4, pos := "law.go:142", after := #[{ on := 8, ground := Ground.data }, { on := 16, ground := Ground.data }], guard := none }) (v := ?_) rfl (by kernel_rfl) (by kernel_rfl) (by kernel_rfl) (fun _ _ _ h => h) (Or.inl ⟨by rfl, ?_⟩) hHeld ?_
        rotate_left
        · intro w hSw
          (try dsimp only at hSw)
          go_simp
          try with_reducible rfl
        try simp only [Act.put, List.setIfInBounds_toArray, List.set_cons_zero, List.set_cons_succ]
        refine wpAnyH_done (by kernel_rfl) ?_ _
        have HE := Lib.hid (h12.sub (S' := []) (fun _ h => h) (fun _ h => absurd h List.not_mem_nil))
        obtain ⟨v2, hv2⟩ : ∃ v2, winX (wd f2 a 2) = v2 := ⟨_, rfl⟩
        obtain ⟨Z, hZ⟩ : ∃ Z : Msg, Z = ⟨1, [], []⟩ := ⟨_, rfl⟩
        obtain ⟨f3, hf3⟩ : ∃ f3, f3 = putU f2 a Z := ⟨_, rfl⟩
        obtain ⟨f4, hf4⟩ : ∃ f4, f4 = openU f3 a ⟨4, 2⟩ := ⟨_, rfl⟩
        have HV2 := Lib.hid hv2
        have HV3 : Hid (winX (wd f3 a 2) = v2) := Lib.hid (by rw [hf3, two_putU]; exact hv2)
        have F4 : Hid (getM (wd f4 a) = Z) := Lib.hid (by rw [hf4, hf3, hZ]; exact one_get f2 a)
        have E3 := Lib.hid hf3
        have E4 := Lib.hid hf4
        have ZR : Hid (MsgR Z) := Lib.hid (by rw [hZ]; exact ⟨by decide, by decide⟩)
        have ZE : Hid (putE Z = 0) := Lib.hid (by rw [hZ]; decide)
        have Zl : Hid ((Z.label : Int) = 1) := Lib.hid (by rw [hZ]; rfl)
        have Zn : Hid (Z.words.length = 0) := Lib.hid (by rw [hZ]; rfl)
        have Zk : Hid (Z.items.length = 0) := Lib.hid (by rw [hZ]; rfl)
        have ZA : Hid (∀ w : World, SlR w none (u64s Z.words)) := Lib.hid (by rw [hZ]; exact fun _ h => absurd rfl h)
        have ZI : Hid (∀ w : World, SlR w none (itemCells Z.items)) := Lib.hid (by rw [hZ]; exact fun _ h => absurd rfl h)
        clear hv2 hZ hf3 hf4 hS hSd
        go_wp2_with fail
        refine (window_c HE.out Rp.out HA.out H8.out v2 HV2.out).mono ?_
        rintro e w13 ⟨rfl, h13⟩
        have h14 := h13.alloc #[.int .i64 v2.base, .int .i64 v2.order] 26
        obtain ⟨g18, hg18⟩ : ∃ g18, g18 = w13.heap.size := ⟨_, rfl⟩
        rw [← hg18] at h14
        obtain ⟨R2, hR2⟩ : ∃ R2 : List Rw, R2 = (g18, #[.int .i64 v2.base, .int .i64 v2.order], 26) :: R := ⟨_, rfl⟩
        rw [← hR2] at h14
        have Rp2 : Hid ((bp, blkRow ga a, 79) ∈ R2) := Lib.hid (by rw [hR2]; exact List.mem_cons_of_mem _ Rp.out)
        have R18 : Hid ((g18, #[.int .i64 v2.base, .int .i64 v2.order], 26) ∈ R2) := Lib.hid (by rw [hR2]; exact List.mem_cons_self)
        have H14 := Lib.hid h14
        clear h13 h14 hR2 HE
        go_wp2_with fail
        rw [← hg18]
        clear hg18
        refine (put_c H14.out Rp2.out HA.out H8.out Z ZR.out 0 ZE.out 1 Zl.out none none 0 0 0 0 Zn.out Zk.out (by omega) (ZA.out _) (ZI.out _)).mono ?_
        rintro e w15 ⟨rfl, h15⟩
        rw [← E3.out] at h15
        have H15 := Lib.hid h15
        clear h15 H14
        go_wp2_with fail
        have hS := H15.out
        have hSd := H15.out.drew
        have re := run_eq_wnd v2
        have KD : Hid (∀ (w' : World) (f : Nat → Nat) (S : List Sls), Scn w w' ga gb f R2 S → w'.cell? ⟨g18, 0, none⟩ = some (.int .i64 v2.base) ∧ w'.cell? ⟨g18, 1, none⟩ = some (.int .i64 v2.order)) := Lib.hid (fun w' f S h => ⟨h.cell R18.out 0, h.cell R18.out 1⟩)
        go_region_held3 (fun w' => w'.cell? ⟨g18, 0, none⟩ = some (.int .i64 v2.base) ∧ w'.cell? ⟨g18, 1, none⟩ = some (.int .i64 v2.order)) (exact KD.out _ _ _ (by assumption)) (first | (go_at_call 21; (with_reducible refine (window_c (by assumption) Rp2.out HA.out H8.out v2 HV3.out).mono ?_); rintro e w16 ⟨rfl, h16⟩) | (go_at_call 20; (with_reducible refine (open_u (by assumption) Rp2.out HA.out H8.out 4 2 0 (by decide)).mono ?_); rintro e w17 ⟨rfl, h17⟩; rw [← E4.out] at h17) | (go_at_call 19; (with_reducible refine (get_c (by assumption) Rp2.out HA.out H8.out Z F4.out 1 Zl.out 0 0 Zn.out Zk.out).mono ?_); rintro e w18 ⟨A3, B3, c3, d3, rfl, h18⟩) | (go_at_call 18; (with_reducible refine (same_c (by assumption) Z Z true (sameM_self Z) 1 1 Zl.out Zl.out _ _ _ _ 0 0 0 0 _ _ _ _ Zn.out Zn.out Zk.out Zk.out (by omega) (by omega) (by omega) (by omega) (Scn.s0 (by assumption)) (ZA.out _) (Scn.s1 (by assumption)) (ZI.out _)).mono ?_); rintro e w19 ⟨rfl, h19⟩))
        all_goals
          go_wp2
          go_ret
          exact ⟨rfl, h19.way⟩
      · have EO : Hid (openE ⟨b, o⟩ = 1) := Lib.hid (by unfold openE; rw [HRW.out]; rfl)
        have EP : Hid (putE m = 0) := Lib.hid (by unfold putE; rw [HRM.out]; rfl)
        obtain ⟨f1, hf1⟩ : ∃ f1, f1 = openU f0 a ⟨b, o⟩ := ⟨_, rfl⟩
        obtain ⟨f2, hf2⟩ : ∃ f2, f2 = putU f1 a m := ⟨_, rfl⟩
        have F2 : Hid (getM (wd f2 a) = m) := Lib.hid (by rw [hf2, putU_ok _ _ HRM.out]; exact getM_putF _ _ _ HR.out HRM.out)
        have E1 := Lib.hid hf1
        have E2 := Lib.hid hf2
        clear hf1 hf2
        go_wp2_with fail
        clear q0 q1 q2 q3 q4
        have hS := HS.out
        have hSd := HS.out.drew
        go_region_held3 (fun w' => w'.cell? ⟨g4, 0, none⟩ = some (.int .u64 (m.label : Int)) ∧ w'.cell? ⟨g4, 1, none⟩ = some (.slice A n c) ∧ w'.cell? ⟨g4, 2, none⟩ = some (.slice B k d) ∧ w'.cell? ⟨g5, 0, none⟩ = some (.int .i64 b) ∧ w'.cell? ⟨g5, 1, none⟩ = some (.int .i64 o)) (exact KC.out _ _ _ (by assumption)) (first | (go_at_call 20; (with_reducible refine (open_u (by assumption) Rp.out HA.out H8.out b o 1 EO.out).mono ?_); rintro e w5 ⟨rfl, h5⟩; rw [← E1.out] at h5) | (go_at_call 17; (with_reducible refine (put_c (by assumption) Rp.out HA.out H8.out m HR.out 0 EP.out m.label rfl A B n c k d HN.out HK.out (by omega) (Scn.arg (by assumption) HAs.out) (Scn.arg (by assumption) HBs.out)).mono ?_); rintro e w6 ⟨rfl, h6⟩; rw [← E2.out] at h6))
        have H6 := Lib.hid h6
        obtain ⟨q0, q1, q2, q3, q4⟩ := KC.out _ _ _ h6
        clear hS hSd h5 h6 HS
        go_wp2_with fail
        refine (may_c H6.out b o false HRW.out).mono ?_
        rintro e w7 ⟨rfl, h7⟩
        have H7 := Lib.hid h7
        clear h7 H6 q0 q1 q2 q3 q4
        go_wp2_with fail
        have hS := H7.out
        have hSd := H7.out.drew
        refine wp_region_held_drew (S := (fun w' => w'.cell? ⟨g4, 0, none⟩ = some (.int .u64 (m.label : Int)) ∧ w'.cell? ⟨g4, 1, none⟩ = some (.slice A n c) ∧ w'.cell? ⟨g4, 2, none⟩ = some (.slice B k d) ∧ w'.cell? ⟨g5, 0, none⟩ = some (.int .i64 b) ∧ w'.cell? ⟨g5, 1, none⟩ = some (.int .i64 o))) (by kernel_rfl) (KC.out _ _ _ hSd) (fun hHeld => ?_)
        refine wpAnyH_take (i := 0) (oi := { dst := some 86, op := Op.move (Operand.tmp 12), type := 4, pos := "law.go:142", after := #[], guard := none }) (v := ?_) rfl (by kernel_rfl) (by kernel_rfl) (by kernel_rfl) (fun _ _ _ h => h) (Or.inl ⟨by rfl, ?_⟩) hHeld ?_
        rotate_left
        · intro w hSw
          (try dsimp only at hSw)
          go_simp
          try with_reducible rfl
        try simp only [Act.put, List.setIfInBounds_toArray, List.set_cons_zero, List.set_cons_succ]
        refine wpAnyH_take (i := 1) (oi := { dst := some 87, op := Op.move (Operand.tmp 86), type := 4, pos := "law.go:142", after := #[{ on := 0, ground := Ground.data }], guard := none }) (v := ?_) rfl (by kernel_rfl) (by kernel_rfl) (by kernel_rfl) (fun _ _ _ h => h) (Or.inl ⟨by rfl, ?_⟩) hHeld ?_
        rotate_left
        · intro w hSw
          (try dsimp only at hSw)
          go_simp
          try with_reducible rfl
        try simp only [Act.put, List.setIfInBounds_toArray, List.set_cons_zero, List.set_cons_succ]
        refine wpAnyH_take (i := 2) (oi := { dst := some 88, op := Op.move (Operand.tmp 11), type := 36, pos := "law.go:142", after := #[{ on := 1, ground := Ground.guard }], guard := some (1, true) }) (v := ?_) rfl (by kernel_rfl) (by kernel_rfl) (by kernel_rfl) (fun _ _ _ h => h) (Or.inl ⟨by rfl, ?_⟩) hHeld ?_
        rotate_left
        · intro w hSw
          (try dsimp only at hSw)
          go_simp
          try with_reducible rfl
        try simp only [Act.put, List.setIfInBounds_toArray, List.set_cons_zero, List.set_cons_succ]
        refine wpAnyH_take (i := 4) (oi := { dst := some 90, op := Op.load 43 (Operand.tmp 4), type := 43, pos := "law.go:142", after := #[{ on := 1, ground := Ground.guard }], guard := some (1, true) }) (v := ?_) rfl (by kernel_rfl) (by kernel_rfl) (by kernel_rfl) (fun _ _ _ h => h) (Or.inl ⟨by rfl, ?_⟩) hHeld ?_
        rotate_left
        · intro w hSw
          (try dsimp only at hSw)
          go_simp
          try with_reducible rfl
        try simp only [Act.put, List.setIfInBounds_toArray, List.set_cons_zero, List.set_cons_succ]
        refine wpAnyH_ready (rs := [3]) (by kernel_rfl) (by simp) ?_
        refine AllReadyH.cons (o := { dst := some 89, op := Op.call { callee := Callee.value (Operand.func 19), args := #[Operand.tmp 88], argTypes := #[36] }, type := 43, pos := "law.go:142", after := #[{ on := 2, ground := Ground.data }, { on := 1, ground := Ground.chain }, { on := 1, ground := Ground.guard }], guard := some (1, true) }) rfl (fun K hK => ?_) ?_
        rotate_left
        · exact AllReadyH.nil
        go_simp
        go_at_call 19; refine (get_c (by assumption) Rp.out HA.out H8.out m F2.out m.label rfl n k HN.out HK.out).mono ?_; rintro e w10 ⟨A2, B2, c2, d2, rfl, h10⟩
        try go_simp
        refine hK.out _ _ (KC.out _ _ _ (by assumption)) (fun hHeld => ?_)
        clear hK K
        try simp only [Act.put, List.setIfInBounds_toArray, List.set_cons_zero, List.set_cons_succ]
        refine wpAnyH_ready (rs := [5]) (by kernel_rfl) (by simp) ?_
        refine AllReadyH.cons (o := { dst := some 91, op := Op.call { callee := Callee.value (Operand.func 18), args := #[Operand.tmp 89, Operand.tmp 90], argTypes := #[43, 43] }, type := 4, pos := "law.go:142", after := #[{ on := 3, ground := Ground.data }, { on := 4, ground := Ground.data }, { on := 3, ground := Ground.chain }, { on := 1, ground := Ground.guard }], guard := some (1, true) }) rfl (fun K hK => ?_) ?_
        rotate_left
        · exact AllReadyH.nil
        go_simp
        go_at_call 18; refine (same_c (by assumption) m m true (sameM_self m) m.label m.label rfl rfl _ _ _ _ n n k k _ _ _ _ HN.out HN.out HK.out HK.out (by omega) (by omega) (by omega) (by omega) (Scn.s0 (by assumption)) (Scn.arg (by assumption) HAs.out) (Scn.s1 (by assumption)) (Scn.arg (by assumption) HBs.out)).mono ?_; rintro e w11 ⟨rfl, h11⟩
        try go_simp
        refine hK.out _ _ (KC.out _ _ _ (by assumption)) (fun hHeld => ?_)
        clear hK K
        try simp only [Act.put, List.setIfInBounds_toArray, List.set_cons_zero, List.set_cons_succ]
        refine wpAnyH_take (i := 6) (oi := { dst := some 92, op := Op.unOp UnOp.not 4 (Operand.tmp 91), type := 4, pos := "law.go:142", after := #[{ on := 5, ground := Ground.data }, { on := 1, ground := Ground.guard }], guard := some (1, true) }) (v := ?_) rfl (by kernel_rfl) (by kernel_rfl) (by kernel_rfl) (fun _ _ _ h => h) (Or.inl ⟨by rfl, ?_⟩) hHeld ?_
        rotate_left
        · intro w hSw
          (try dsimp only at hSw)
          go_simp
          try with_reducible rfl
        try simp only [Act.put, List.setIfInBounds_toArray, List.set_cons_zero, List.set_cons_succ]
        refine wpAnyH_take (i := 7) (oi := { dst := some 93, op := Op.pick (Operand.tmp 87) (Operand.tmp 92) (Operand.const (Value.bool false)), type := 4, pos := "law.go:142", after := #[{ on := 1, ground := Ground.data }, { on := 6, ground := Ground.data }], guard := none }) (v := ?_) rfl (by kernel_rfl) (by kernel_rfl) (by kernel_rfl) (fun _ _ _ h => h) (Or.inl ⟨by rfl, ?_⟩) hHeld ?_
        rotate_left
        · intro w hSw
          (try dsimp only at hSw)
          go_simp
          try with_reducible rfl
        try simp only [Act.put, List.setIfInBounds_toArray, List.set_cons_zero, List.set_cons_succ]
        refine wpAnyH_take (i := 8) (oi := { dst := some 94, op := Op.move (Operand.tmp 93), type := 4, pos := "law.go:142", after := #[{ on := 7, ground := Ground.data }, { on := 5, ground := Ground.chain }], guard := none }) (v := ?_) rfl (by kernel_rfl) (by kernel_rfl) (by kernel_rfl) (fun _ _ _ h => h) (Or.inl ⟨by rfl, ?_⟩) hHeld ?_
        rotate_left
        · intro w hSw
          (try dsimp only at hSw)
          go_simp
          try with_reducible rfl
        try simp only [Act.put, List.setIfInBounds_toArray, List.set_cons_zero, List.set_cons_succ]
        refine wpAnyH_take (i := 9) (oi := { dst := some 95, op := Op.move (Operand.tmp 16), type := 37, pos := "law.go:142", after := #[{ on := 8, ground := Ground.guard }], guard := some (8, false) }) (v := ?_) rfl (by kernel_rfl) (by kernel_rfl) (by kernel_rfl) (fun _ _ _ h => h) (Or.inl ⟨by rfl, ?_⟩) hHeld ?_
        rotate_left
        · intro w hSw
          (try dsimp only at hSw)
          go_simp
          try with_reducible rfl
        try simp only [Act.put, List.setIfInBounds_toArray, List.set_cons_zero, List.set_cons_succ]
        refine wpAnyH_take (i := 10) (oi := { dst := some 96, op := Op.binOp BinOp.eql 37 (Operand.tmp 95) (Operand.const (Value.int IntKind.i64 0)) 37, type := 4, pos := "law.go:142", after := #[{ on := 9, ground := Ground.data }, { on := 8, ground := Ground.guard }], guard := some (8, false) }) (v := ?_) rfl (by kernel_rfl) (by kernel_rfl) (by kernel_rfl) (fun _ _ _ h => h) (Or.inl ⟨by rfl, ?_⟩) hHeld ?_
        rotate_left
        · intro w hSw
          (try dsimp only at hSw)
          go_simp
          try with_reducible rfl
        try simp only [Act.put, List.setIfInBounds_toArray, List.set_cons_zero, List.set_cons_succ]
        refine wpAnyH_take (i := 11) (oi := { dst := some 97, op := Op.move (Operand.tmp 96), type := 4, pos := "law.go:142", after := #[{ on := 10, ground := Ground.data }, { on := 8, ground := Ground.chain }, { on := 8, ground := Ground.guard }], guard := some (8, false) }) (v := ?_) rfl (by kernel_rfl) (by kernel_rfl) (by kernel_rfl) (fun _ _ _ h => h) (Or.inl ⟨by rfl, ?_⟩) hHeld ?_
        rotate_left
        · intro w hSw
          (try dsimp only at hSw)
          go_simp
          try with_reducible rfl
        try simp only [Act.put, List.setIfInBounds_toArray, List.set_cons_zero, List.set_cons_succ]
        refine wpAnyH_take (i := 12) (oi := { dst := some 98, op := Op.move (Operand.tmp 11), type := 36, pos := "law.go:142", after := #[{ on := 11, ground := Ground.guard }], guard := some (11, true) }) (v := undef) rfl (by kernel_rfl) (by kernel_rfl) (by kernel_rfl) (fun _ _ _ h => h) (Or.inr ⟨by rfl, rfl⟩) hHeld ?_
        try simp only [Act.put, List.setIfInBounds_toArray, List.set_cons_zero, List.set_cons_succ]
        refine wpAnyH_take (i := 13) (oi := { dst := some 99, op := Op.call { callee := Callee.value (Operand.func 21), args := #[Operand.tmp 98], argTypes := #[36] }, type := 26, pos := "law.go:142", after := #[{ on := 12, ground := Ground.data }, { on := 11, ground := Ground.chain }, { on := 11, ground := Ground.guard }], guard := some (11, true) }) (v := undef) rfl (by kernel_rfl) (by kernel_rfl) (by kernel_rfl) (fun _ _ _ h => h) (Or.inr ⟨by rfl, rfl⟩) hHeld ?_
        try simp only [Act.put, List.setIfInBounds_toArray, List.set_cons_zero, List.set_cons_succ]
        refine wpAnyH_take (i := 14) (oi := { dst := some 100, op := Op.load 26 (Operand.tmp 5), type := 26, pos := "law.go:142", after := #[{ on := 11, ground := Ground.guard }], guard := some (11, true) }) (v := undef) rfl (by kernel_rfl) (by kernel_rfl) (by kernel_rfl) (fun _ _ _ h => h) (Or.inr ⟨by rfl, rfl⟩) hHeld ?_
        try simp only [Act.put, List.setIfInBounds_toArray, List.set_cons_zero, List.set_cons_succ]
        refine wpAnyH_take (i := 15) (oi := { dst := some 101, op := Op.binOp BinOp.neq 26 (Operand.tmp 99) (Operand.tmp 100) 26, type := 4, pos := "law.go:142", after := #[{ on := 13, ground := Ground.data }, { on := 14, ground := Ground.data }, { on := 11, ground := Ground.guard }], guard := some (11, true) }) (v := undef) rfl (by kernel_rfl) (by kernel_rfl) (by kernel_rfl) (fun _ _ _ h => h) (Or.inr ⟨by rfl, rfl⟩) hHeld ?_
        try simp only [Act.put, List.setIfInBounds_toArray, List.set_cons_zero, List.set_cons_succ]
        refine wpAnyH_take (i := 16) (oi := { dst := some 102, op := Op.pick (Operand.tmp 97) (Operand.tmp 101) (Operand.const (Value.bool false)), type := 4, pos := "law.go:142", after := #[{ on := 11, ground := Ground.data }, { on := 15, ground := Ground.data }, { on := 8, ground := Ground.guard }], guard := some (8, false) }) (v := ?_) rfl (by kernel_rfl) (by kernel_rfl) (by kernel_rfl) (fun _ _ _ h => h) (Or.inl ⟨by rfl, ?_⟩) hHeld ?_
        rotate_left
        · intro w hSw
          (try dsimp only at hSw)
          go_simp
          try with_reducible rfl
        try simp only [Act.put, List.setIfInBounds_toArray, List.set_cons_zero, List.set_cons_succ]
        refine wpAnyH_take (i := 17) (oi := { dst := some 103, op := Op.pick (Operand.tmp 94) (Operand.const (Value.bool true)) (Operand.tmp 102), type := 4, pos := "law.go:142", after := #[{ on := 8, ground := Ground.data }, { on := 16, ground := Ground.data }], guard := none }) (v := ?_) rfl (by kernel_rfl) (by kernel_rfl) (by kernel_rfl) (fun _ _ _ h => h) (Or.inl ⟨by rfl, ?_⟩) hHeld ?_
        rotate_left
        · intro w hSw
          (try dsimp only at hSw)
          go_simp
          try with_reducible rfl
        try simp only [Act.put, List.setIfInBounds_toArray, List.set_cons_zero, List.set_cons_succ]
        refine wpAnyH_done (by kernel_rfl) ?_ _
        have HE := Lib.hid (h11.sub (S' := []) (fun _ h => h) (fun _ h => absurd h List.not_mem_nil))
        obtain ⟨v2, hv2⟩ : ∃ v2, winX (wd f2 a 2) = v2 := ⟨_, rfl⟩
        obtain ⟨Z, hZ⟩ : ∃ Z : Msg, Z = ⟨1, [], []⟩ := ⟨_, rfl⟩
        obtain ⟨f3, hf3⟩ : ∃ f3, f3 = putU f2 a Z := ⟨_, rfl⟩
        obtain ⟨f4, hf4⟩ : ∃ f4, f4 = openU f3 a ⟨4, 2⟩ := ⟨_, rfl⟩
        have HV2 := Lib.hid hv2
        have HV3 : Hid (winX (wd f3 a 2) = v2) := Lib.hid (by rw [hf3, two_putU]; exact hv2)
        have F4 : Hid (getM (wd f4 a) = Z) := Lib.hid (by rw [hf4, hf3, hZ]; exact one_get f2 a)
        have E3 := Lib.hid hf3
        have E4 := Lib.hid hf4
        have ZR : Hid (MsgR Z) := Lib.hid (by rw [hZ]; exact ⟨by decide, by decide⟩)
        have ZE : Hid (putE Z = 0) := Lib.hid (by rw [hZ]; decide)
        have Zl : Hid ((Z.label : Int) = 1) := Lib.hid (by rw [hZ]; rfl)
        have Zn : Hid (Z.words.length = 0) := Lib.hid (by rw [hZ]; rfl)
        have Zk : Hid (Z.items.length = 0) := Lib.hid (by rw [hZ]; rfl)
        have ZA : Hid (∀ w : World, SlR w none (u64s Z.words)) := Lib.hid (by rw [hZ]; exact fun _ h => absurd rfl h)
        have ZI : Hid (∀ w : World, SlR w none (itemCells Z.items)) := Lib.hid (by rw [hZ]; exact fun _ h => absurd rfl h)
        clear hv2 hZ hf3 hf4 hS hSd
        go_wp2_with fail
        refine (window_c HE.out Rp.out HA.out H8.out v2 HV2.out).mono ?_
        rintro e w13 ⟨rfl, h13⟩
        have h14 := h13.alloc #[.int .i64 v2.base, .int .i64 v2.order] 26
        obtain ⟨g18, hg18⟩ : ∃ g18, g18 = w13.heap.size := ⟨_, rfl⟩
        rw [← hg18] at h14
        obtain ⟨R2, hR2⟩ : ∃ R2 : List Rw, R2 = (g18, #[.int .i64 v2.base, .int .i64 v2.order], 26) :: R := ⟨_, rfl⟩
        rw [← hR2] at h14
        have Rp2 : Hid ((bp, blkRow ga a, 79) ∈ R2) := Lib.hid (by rw [hR2]; exact List.mem_cons_of_mem _ Rp.out)
        have R18 : Hid ((g18, #[.int .i64 v2.base, .int .i64 v2.order], 26) ∈ R2) := Lib.hid (by rw [hR2]; exact List.mem_cons_self)
        have H14 := Lib.hid h14
        clear h13 h14 hR2 HE
        go_wp2_with fail
        rw [← hg18]
        clear hg18
        refine (put_c H14.out Rp2.out HA.out H8.out Z ZR.out 0 ZE.out 1 Zl.out none none 0 0 0 0 Zn.out Zk.out (by omega) (ZA.out _) (ZI.out _)).mono ?_
        rintro e w15 ⟨rfl, h15⟩
        rw [← E3.out] at h15
        have H15 := Lib.hid h15
        clear h15 H14
        go_wp2_with fail
        have hS := H15.out
        have hSd := H15.out.drew
        have re := run_eq_wnd v2
        have KD : Hid (∀ (w' : World) (f : Nat → Nat) (S : List Sls), Scn w w' ga gb f R2 S → w'.cell? ⟨g18, 0, none⟩ = some (.int .i64 v2.base) ∧ w'.cell? ⟨g18, 1, none⟩ = some (.int .i64 v2.order)) := Lib.hid (fun w' f S h => ⟨h.cell R18.out 0, h.cell R18.out 1⟩)
        go_region_held3 (fun w' => w'.cell? ⟨g18, 0, none⟩ = some (.int .i64 v2.base) ∧ w'.cell? ⟨g18, 1, none⟩ = some (.int .i64 v2.order)) (exact KD.out _ _ _ (by assumption)) (first | (go_at_call 21; (with_reducible refine (window_c (by assumption) Rp2.out HA.out H8.out v2 HV3.out).mono ?_); rintro e w16 ⟨rfl, h16⟩) | (go_at_call 20; (with_reducible refine (open_u (by assumption) Rp2.out HA.out H8.out 4 2 0 (by decide)).mono ?_); rintro e w17 ⟨rfl, h17⟩; rw [← E4.out] at h17) | (go_at_call 19; (with_reducible refine (get_c (by assumption) Rp2.out HA.out H8.out Z F4.out 1 Zl.out 0 0 Zn.out Zk.out).mono ?_); rintro e w18 ⟨A3, B3, c3, d3, rfl, h18⟩) | (go_at_call 18; (with_reducible refine (same_c (by assumption) Z Z true (sameM_self Z) 1 1 Zl.out Zl.out _ _ _ _ 0 0 0 0 _ _ _ _ Zn.out Zn.out Zk.out Zk.out (by omega) (by omega) (by omega) (by omega) (Scn.s0 (by assumption)) (ZA.out _) (Scn.s1 (by assumption)) (ZI.out _)).mono ?_); rintro e w19 ⟨rfl, h19⟩))
        all_goals
          go_wp2
          go_ret
          exact ⟨rfl, h19.way⟩
      · have EO : Hid (openE ⟨b, o⟩ = 0) := Lib.hid (by unfold openE; rw [HRW.out]; rfl)
        have EP : Hid (putE m = 0) := Lib.hid (by unfold putE; rw [HRM.out]; rfl)
        obtain ⟨f1, hf1⟩ : ∃ f1, f1 = openU f0 a ⟨b, o⟩ := ⟨_, rfl⟩
        obtain ⟨f2, hf2⟩ : ∃ f2, f2 = putU f1 a m := ⟨_, rfl⟩
        have F2 : Hid (getM (wd f2 a) = m) := Lib.hid (by rw [hf2, putU_ok _ _ HRM.out]; exact getM_putF _ _ _ HR.out HRM.out)
        have VW : Hid (winX (wd f2 a 2) = ⟨b, o⟩) := Lib.hid (by rw [hf2, two_putU, hf1]; unfold openU; rw [if_pos HRW.out]; exact win_openF _ _ _ HRW.out)
        have E1 := Lib.hid hf1
        have E2 := Lib.hid hf2
        clear hf1 hf2
        go_wp2_with fail
        clear q0 q1 q2 q3 q4
        have hS := HS.out
        have hSd := HS.out.drew
        go_region_held3 (fun w' => w'.cell? ⟨g4, 0, none⟩ = some (.int .u64 (m.label : Int)) ∧ w'.cell? ⟨g4, 1, none⟩ = some (.slice A n c) ∧ w'.cell? ⟨g4, 2, none⟩ = some (.slice B k d) ∧ w'.cell? ⟨g5, 0, none⟩ = some (.int .i64 b) ∧ w'.cell? ⟨g5, 1, none⟩ = some (.int .i64 o)) (exact KC.out _ _ _ (by assumption)) (first | (go_at_call 20; (with_reducible refine (open_u (by assumption) Rp.out HA.out H8.out b o 0 EO.out).mono ?_); rintro e w5 ⟨rfl, h5⟩; rw [← E1.out] at h5) | (go_at_call 17; (with_reducible refine (put_c (by assumption) Rp.out HA.out H8.out m HR.out 0 EP.out m.label rfl A B n c k d HN.out HK.out (by omega) (Scn.arg (by assumption) HAs.out) (Scn.arg (by assumption) HBs.out)).mono ?_); rintro e w6 ⟨rfl, h6⟩; rw [← E2.out] at h6))
        have H6 := Lib.hid h6
        obtain ⟨q0, q1, q2, q3, q4⟩ := KC.out _ _ _ h6
        clear hS hSd h5 h6 HS
        go_wp2_with fail
        refine (may_c H6.out b o true HRW.out).mono ?_
        rintro e w7 ⟨rfl, h7⟩
        have H7 := Lib.hid h7
        clear h7 H6 q0 q1 q2 q3 q4
        go_wp2_with fail
        have hS := H7.out
        have hSd := H7.out.drew
        have rn := run_neq_wnd ⟨b, o⟩
        refine wp_region_held_drew (S := (fun w' => w'.cell? ⟨g4, 0, none⟩ = some (.int .u64 (m.label : Int)) ∧ w'.cell? ⟨g4, 1, none⟩ = some (.slice A n c) ∧ w'.cell? ⟨g4, 2, none⟩ = some (.slice B k d) ∧ w'.cell? ⟨g5, 0, none⟩ = some (.int .i64 b) ∧ w'.cell? ⟨g5, 1, none⟩ = some (.int .i64 o))) (by kernel_rfl) (KC.out _ _ _ hSd) (fun hHeld => ?_)
        refine wpAnyH_take (i := 0) (oi := { dst := some 86, op := Op.move (Operand.tmp 12), type := 4, pos := "law.go:142", after := #[], guard := none }) (v := ?_) rfl (by kernel_rfl) (by kernel_rfl) (by kernel_rfl) (fun _ _ _ h => h) (Or.inl ⟨by rfl, ?_⟩) hHeld ?_
        rotate_left
        · intro w hSw
          (try dsimp only at hSw)
          go_simp
          try with_reducible rfl
        try simp only [Act.put, List.setIfInBounds_toArray, List.set_cons_zero, List.set_cons_succ]
        refine wpAnyH_take (i := 1) (oi := { dst := some 87, op := Op.move (Operand.tmp 86), type := 4, pos := "law.go:142", after := #[{ on := 0, ground := Ground.data }], guard := none }) (v := ?_) rfl (by kernel_rfl) (by kernel_rfl) (by kernel_rfl) (fun _ _ _ h => h) (Or.inl ⟨by rfl, ?_⟩) hHeld ?_
        rotate_left
        · intro w hSw
          (try dsimp only at hSw)
          go_simp
          try with_reducible rfl
        try simp only [Act.put, List.setIfInBounds_toArray, List.set_cons_zero, List.set_cons_succ]
        refine wpAnyH_take (i := 2) (oi := { dst := some 88, op := Op.move (Operand.tmp 11), type := 36, pos := "law.go:142", after := #[{ on := 1, ground := Ground.guard }], guard := some (1, true) }) (v := ?_) rfl (by kernel_rfl) (by kernel_rfl) (by kernel_rfl) (fun _ _ _ h => h) (Or.inl ⟨by rfl, ?_⟩) hHeld ?_
        rotate_left
        · intro w hSw
          (try dsimp only at hSw)
          go_simp
          try with_reducible rfl
        try simp only [Act.put, List.setIfInBounds_toArray, List.set_cons_zero, List.set_cons_succ]
        refine wpAnyH_take (i := 4) (oi := { dst := some 90, op := Op.load 43 (Operand.tmp 4), type := 43, pos := "law.go:142", after := #[{ on := 1, ground := Ground.guard }], guard := some (1, true) }) (v := ?_) rfl (by kernel_rfl) (by kernel_rfl) (by kernel_rfl) (fun _ _ _ h => h) (Or.inl ⟨by rfl, ?_⟩) hHeld ?_
        rotate_left
        · intro w hSw
          (try dsimp only at hSw)
          go_simp
          try with_reducible rfl
        try simp only [Act.put, List.setIfInBounds_toArray, List.set_cons_zero, List.set_cons_succ]
        refine wpAnyH_ready (rs := [3]) (by kernel_rfl) (by simp) ?_
        refine AllReadyH.cons (o := { dst := some 89, op := Op.call { callee := Callee.value (Operand.func 19), args := #[Operand.tmp 88], argTypes := #[36] }, type := 43, pos := "law.go:142", after := #[{ on := 2, ground := Ground.data }, { on := 1, ground := Ground.chain }, { on := 1, ground := Ground.guard }], guard := some (1, true) }) rfl (fun K hK => ?_) ?_
        rotate_left
        · exact AllReadyH.nil
        go_simp
        go_at_call 19; refine (get_c (by assumption) Rp.out HA.out H8.out m F2.out m.label rfl n k HN.out HK.out).mono ?_; rintro e w10 ⟨A2, B2, c2, d2, rfl, h10⟩
        try go_simp
        refine hK.out _ _ (KC.out _ _ _ (by assumption)) (fun hHeld => ?_)
        clear hK K
        try simp only [Act.put, List.setIfInBounds_toArray, List.set_cons_zero, List.set_cons_succ]
        refine wpAnyH_ready (rs := [5]) (by kernel_rfl) (by simp) ?_
        refine AllReadyH.cons (o := { dst := some 91, op := Op.call { callee := Callee.value (Operand.func 18), args := #[Operand.tmp 89, Operand.tmp 90], argTypes := #[43, 43] }, type := 4, pos := "law.go:142", after := #[{ on := 3, ground := Ground.data }, { on := 4, ground := Ground.data }, { on := 3, ground := Ground.chain }, { on := 1, ground := Ground.guard }], guard := some (1, true) }) rfl (fun K hK => ?_) ?_
        rotate_left
        · exact AllReadyH.nil
        go_simp
        go_at_call 18; refine (same_c (by assumption) m m true (sameM_self m) m.label m.label rfl rfl _ _ _ _ n n k k _ _ _ _ HN.out HN.out HK.out HK.out (by omega) (by omega) (by omega) (by omega) (Scn.s0 (by assumption)) (Scn.arg (by assumption) HAs.out) (Scn.s1 (by assumption)) (Scn.arg (by assumption) HBs.out)).mono ?_; rintro e w11 ⟨rfl, h11⟩
        try go_simp
        refine hK.out _ _ (KC.out _ _ _ (by assumption)) (fun hHeld => ?_)
        clear hK K
        try simp only [Act.put, List.setIfInBounds_toArray, List.set_cons_zero, List.set_cons_succ]
        refine wpAnyH_take (i := 6) (oi := { dst := some 92, op := Op.unOp UnOp.not 4 (Operand.tmp 91), type := 4, pos := "law.go:142", after := #[{ on := 5, ground := Ground.data }, { on := 1, ground := Ground.guard }], guard := some (1, true) }) (v := ?_) rfl (by kernel_rfl) (by kernel_rfl) (by kernel_rfl) (fun _ _ _ h => h) (Or.inl ⟨by rfl, ?_⟩) hHeld ?_
        rotate_left
        · intro w hSw
          (try dsimp only at hSw)
          go_simp
          try with_reducible rfl
        try simp only [Act.put, List.setIfInBounds_toArray, List.set_cons_zero, List.set_cons_succ]
        refine wpAnyH_take (i := 7) (oi := { dst := some 93, op := Op.pick (Operand.tmp 87) (Operand.tmp 92) (Operand.const (Value.bool false)), type := 4, pos := "law.go:142", after := #[{ on := 1, ground := Ground.data }, { on := 6, ground := Ground.data }], guard := none }) (v := ?_) rfl (by kernel_rfl) (by kernel_rfl) (by kernel_rfl) (fun _ _ _ h => h) (Or.inl ⟨by rfl, ?_⟩) hHeld ?_
        rotate_left
        · intro w hSw
          (try dsimp only at hSw)
          go_simp
          try with_reducible rfl
        try simp only [Act.put, List.setIfInBounds_toArray, List.set_cons_zero, List.set_cons_succ]
        refine wpAnyH_take (i := 8) (oi := { dst := some 94, op := Op.move (Operand.tmp 93), type := 4, pos := "law.go:142", after := #[{ on := 7, ground := Ground.data }, { on := 5, ground := Ground.chain }], guard := none }) (v := ?_) rfl (by kernel_rfl) (by kernel_rfl) (by kernel_rfl) (fun _ _ _ h => h) (Or.inl ⟨by rfl, ?_⟩) hHeld ?_
        rotate_left
        · intro w hSw
          (try dsimp only at hSw)
          go_simp
          try with_reducible rfl
        try simp only [Act.put, List.setIfInBounds_toArray, List.set_cons_zero, List.set_cons_succ]
        refine wpAnyH_take (i := 9) (oi := { dst := some 95, op := Op.move (Operand.tmp 16), type := 37, pos := "law.go:142", after := #[{ on := 8, ground := Ground.guard }], guard := some (8, false) }) (v := ?_) rfl (by kernel_rfl) (by kernel_rfl) (by kernel_rfl) (fun _ _ _ h => h) (Or.inl ⟨by rfl, ?_⟩) hHeld ?_
        rotate_left
        · intro w hSw
          (try dsimp only at hSw)
          go_simp
          try with_reducible rfl
        try simp only [Act.put, List.setIfInBounds_toArray, List.set_cons_zero, List.set_cons_succ]
        refine wpAnyH_take (i := 10) (oi := { dst := some 96, op := Op.binOp BinOp.eql 37 (Operand.tmp 95) (Operand.const (Value.int IntKind.i64 0)) 37, type := 4, pos := "law.go:142", after := #[{ on := 9, ground := Ground.data }, { on := 8, ground := Ground.guard }], guard := some (8, false) }) (v := ?_) rfl (by kernel_rfl) (by kernel_rfl) (by kernel_rfl) (fun _ _ _ h => h) (Or.inl ⟨by rfl, ?_⟩) hHeld ?_
        rotate_left
        · intro w hSw
          (try dsimp only at hSw)
          go_simp
          try with_reducible rfl
        try simp only [Act.put, List.setIfInBounds_toArray, List.set_cons_zero, List.set_cons_succ]
        refine wpAnyH_take (i := 11) (oi := { dst := some 97, op := Op.move (Operand.tmp 96), type := 4, pos := "law.go:142", after := #[{ on := 10, ground := Ground.data }, { on := 8, ground := Ground.chain }, { on := 8, ground := Ground.guard }], guard := some (8, false) }) (v := ?_) rfl (by kernel_rfl) (by kernel_rfl) (by kernel_rfl) (fun _ _ _ h => h) (Or.inl ⟨by rfl, ?_⟩) hHeld ?_
        rotate_left
        · intro w hSw
          (try dsimp only at hSw)
          go_simp
          try with_reducible rfl
        try simp only [Act.put, List.setIfInBounds_toArray, List.set_cons_zero, List.set_cons_succ]
        refine wpAnyH_take (i := 12) (oi := { dst := some 98, op := Op.move (Operand.tmp 11), type := 36, pos := "law.go:142", after := #[{ on := 11, ground := Ground.guard }], guard := some (11, true) }) (v := ?_) rfl (by kernel_rfl) (by kernel_rfl) (by kernel_rfl) (fun _ _ _ h => h) (Or.inl ⟨by rfl, ?_⟩) hHeld ?_
        rotate_left
        · intro w hSw
          (try dsimp only at hSw)
          go_simp
          try with_reducible rfl
        try simp only [Act.put, List.setIfInBounds_toArray, List.set_cons_zero, List.set_cons_succ]
        refine wpAnyH_take (i := 14) (oi := { dst := some 100, op := Op.load 26 (Operand.tmp 5), type := 26, pos := "law.go:142", after := #[{ on := 11, ground := Ground.guard }], guard := some (11, true) }) (v := ?_) rfl (by kernel_rfl) (by kernel_rfl) (by kernel_rfl) (fun _ _ _ h => h) (Or.inl ⟨by rfl, ?_⟩) hHeld ?_
        rotate_left
        · intro w hSw
          (try dsimp only at hSw)
          go_simp
          try with_reducible rfl
        try simp only [Act.put, List.setIfInBounds_toArray, List.set_cons_zero, List.set_cons_succ]
        refine wpAnyH_ready (rs := [13]) (by kernel_rfl) (by simp) ?_
        refine AllReadyH.cons (o := { dst := some 99, op := Op.call { callee := Callee.value (Operand.func 21), args := #[Operand.tmp 98], argTypes := #[36] }, type := 26, pos := "law.go:142", after := #[{ on := 12, ground := Ground.data }, { on := 11, ground := Ground.chain }, { on := 11, ground := Ground.guard }], guard := some (11, true) }) rfl (fun K hK => ?_) ?_
        rotate_left
        · exact AllReadyH.nil
        go_simp
        go_at_call 21; refine (window_c (by assumption) Rp.out HA.out H8.out ⟨b, o⟩ VW.out).mono ?_; rintro e w12 ⟨rfl, h12⟩
        try go_simp
        refine hK.out _ _ (KC.out _ _ _ (by assumption)) (fun hHeld => ?_)
        clear hK K
        try simp only [Act.put, List.setIfInBounds_toArray, List.set_cons_zero, List.set_cons_succ]
        refine wpAnyH_take (i := 15) (oi := { dst := some 101, op := Op.binOp BinOp.neq 26 (Operand.tmp 99) (Operand.tmp 100) 26, type := 4, pos := "law.go:142", after := #[{ on := 13, ground := Ground.data }, { on := 14, ground := Ground.data }, { on := 11, ground := Ground.guard }], guard := some (11, true) }) (v := ?_) rfl (by kernel_rfl) (by kernel_rfl) (by kernel_rfl) (fun _ _ _ h => h) (Or.inl ⟨by rfl, ?_⟩) hHeld ?_
        rotate_left
        · intro w hSw
          (try dsimp only at hSw)
          go_simp
          try with_reducible rfl
        try simp only [Act.put, List.setIfInBounds_toArray, List.set_cons_zero, List.set_cons_succ]
        refine wpAnyH_take (i := 16) (oi := { dst := some 102, op := Op.pick (Operand.tmp 97) (Operand.tmp 101) (Operand.const (Value.bool false)), type := 4, pos := "law.go:142", after := #[{ on := 11, ground := Ground.data }, { on := 15, ground := Ground.data }, { on := 8, ground := Ground.guard }], guard := some (8, false) }) (v := ?_) rfl (by kernel_rfl) (by kernel_rfl) (by kernel_rfl) (fun _ _ _ h => h) (Or.inl ⟨by rfl, ?_⟩) hHeld ?_
        rotate_left
        · intro w hSw
          (try dsimp only at hSw)
          go_simp
          try with_reducible rfl
        try simp only [Act.put, List.setIfInBounds_toArray, List.set_cons_zero, List.set_cons_succ]
        refine wpAnyH_take (i := 17) (oi := { dst := some 103, op := Op.pick (Operand.tmp 94) (Operand.const (Value.bool true)) (Operand.tmp 102), type := 4, pos := "law.go:142", after := #[{ on := 8, ground := Ground.data }, { on := 16, ground := Ground.data }], guard := none }) (v := ?_) rfl (by kernel_rfl) (by kernel_rfl) (by kernel_rfl) (fun _ _ _ h => h) (Or.inl ⟨by rfl, ?_⟩) hHeld ?_
        rotate_left
        · intro w hSw
          (try dsimp only at hSw)
          go_simp
          try with_reducible rfl
        try simp only [Act.put, List.setIfInBounds_toArray, List.set_cons_zero, List.set_cons_succ]
        refine wpAnyH_done (by kernel_rfl) ?_ _
        have HE := Lib.hid (h12.sub (S' := []) (fun _ h => h) (fun _ h => absurd h List.not_mem_nil))
        obtain ⟨v2, hv2⟩ : ∃ v2, winX (wd f2 a 2) = v2 := ⟨_, rfl⟩
        obtain ⟨Z, hZ⟩ : ∃ Z : Msg, Z = ⟨1, [], []⟩ := ⟨_, rfl⟩
        obtain ⟨f3, hf3⟩ : ∃ f3, f3 = putU f2 a Z := ⟨_, rfl⟩
        obtain ⟨f4, hf4⟩ : ∃ f4, f4 = openU f3 a ⟨4, 2⟩ := ⟨_, rfl⟩
        have HV2 := Lib.hid hv2
        have HV3 : Hid (winX (wd f3 a 2) = v2) := Lib.hid (by rw [hf3, two_putU]; exact hv2)
        have F4 : Hid (getM (wd f4 a) = Z) := Lib.hid (by rw [hf4, hf3, hZ]; exact one_get f2 a)
        have E3 := Lib.hid hf3
        have E4 := Lib.hid hf4
        have ZR : Hid (MsgR Z) := Lib.hid (by rw [hZ]; exact ⟨by decide, by decide⟩)
        have ZE : Hid (putE Z = 0) := Lib.hid (by rw [hZ]; decide)
        have Zl : Hid ((Z.label : Int) = 1) := Lib.hid (by rw [hZ]; rfl)
        have Zn : Hid (Z.words.length = 0) := Lib.hid (by rw [hZ]; rfl)
        have Zk : Hid (Z.items.length = 0) := Lib.hid (by rw [hZ]; rfl)
        have ZA : Hid (∀ w : World, SlR w none (u64s Z.words)) := Lib.hid (by rw [hZ]; exact fun _ h => absurd rfl h)
        have ZI : Hid (∀ w : World, SlR w none (itemCells Z.items)) := Lib.hid (by rw [hZ]; exact fun _ h => absurd rfl h)
        clear hv2 hZ hf3 hf4 hS hSd
        go_wp2_with fail
        refine (window_c HE.out Rp.out HA.out H8.out v2 HV2.out).mono ?_
        rintro e w13 ⟨rfl, h13⟩
        have h14 := h13.alloc #[.int .i64 v2.base, .int .i64 v2.order] 26
        obtain ⟨g18, hg18⟩ : ∃ g18, g18 = w13.heap.size := ⟨_, rfl⟩
        rw [← hg18] at h14
        obtain ⟨R2, hR2⟩ : ∃ R2 : List Rw, R2 = (g18, #[.int .i64 v2.base, .int .i64 v2.order], 26) :: R := ⟨_, rfl⟩
        rw [← hR2] at h14
        have Rp2 : Hid ((bp, blkRow ga a, 79) ∈ R2) := Lib.hid (by rw [hR2]; exact List.mem_cons_of_mem _ Rp.out)
        have R18 : Hid ((g18, #[.int .i64 v2.base, .int .i64 v2.order], 26) ∈ R2) := Lib.hid (by rw [hR2]; exact List.mem_cons_self)
        have H14 := Lib.hid h14
        clear h13 h14 hR2 HE
        go_wp2_with fail
        rw [← hg18]
        clear hg18
        refine (put_c H14.out Rp2.out HA.out H8.out Z ZR.out 0 ZE.out 1 Zl.out none none 0 0 0 0 Zn.out Zk.out (by omega) (ZA.out _) (ZI.out _)).mono ?_
        rintro e w15 ⟨rfl, h15⟩
        rw [← E3.out] at h15
        have H15 := Lib.hid h15
        clear h15 H14
        go_wp2_with fail
        have hS := H15.out
        have hSd := H15.out.drew
        have re := run_eq_wnd v2
        have KD : Hid (∀ (w' : World) (f : Nat → Nat) (S : List Sls), Scn w w' ga gb f R2 S → w'.cell? ⟨g18, 0, none⟩ = some (.int .i64 v2.base) ∧ w'.cell? ⟨g18, 1, none⟩ = some (.int .i64 v2.order)) := Lib.hid (fun w' f S h => ⟨h.cell R18.out 0, h.cell R18.out 1⟩)
        go_region_held3 (fun w' => w'.cell? ⟨g18, 0, none⟩ = some (.int .i64 v2.base) ∧ w'.cell? ⟨g18, 1, none⟩ = some (.int .i64 v2.order)) (exact KD.out _ _ _ (by assumption)) (first | (go_at_call 21; (with_reducible refine (window_c (by assumption) Rp2.out HA.out H8.out v2 HV3.out).mono ?_); rintro e w16 ⟨rfl, h16⟩) | (go_at_call 20; (with_reducible refine (open_u (by assumption) Rp2.out HA.out H8.out 4 2 0 (by decide)).mono ?_); rintro e w17 ⟨rfl, h17⟩; rw [← E4.out] at h17) | (go_at_call 19; (with_reducible refine (get_c (by assumption) Rp2.out HA.out H8.out Z F4.out 1 Zl.out 0 0 Zn.out Zk.out).mono ?_); rintro e w18 ⟨A3, B3, c3, d3, rfl, h18⟩) | (go_at_call 18; (with_reducible refine (same_c (by assumption) Z Z true (sameM_self Z) 1 1 Zl.out Zl.out _ _ _ _ 0 0 0 0 _ _ _ _ Zn.out Zn.out Zk.out Zk.out (by omega) (by omega) (by omega) (by omega) (Scn.s0 (by assumption)) (ZA.out _) (Scn.s1 (by assumption)) (ZI.out _)).mono ?_); rintro e w19 ⟨rfl, h19⟩))
        all_goals
          go_wp2
          go_ret
          exact ⟨rfl, h19.way⟩
theorem back_any (m : Msg) (A B : Option Addr) (n c k d spot fl : Nat) (b o : Int) (hn : m.words.length = n) (hk : m.items.length = k) (n1 : n ≤ 9223372036854775807) (n2 : k ≤ 9223372036854775807) (mr : MsgR m) (hs : spot < 65536) (hf : fl < 256) (w : World) (hA : SlR w A (u64s m.words)) (hB : SlR w B (itemCells m.items)) :
    Calls Try.prog 8 #[.agg #[.int .u64 (m.label : Int), .slice A n c, .slice B k d], .agg #[.int .i64 b, .int .i64 o], .int .u16 (spot : Int), .int .u8 (fl : Int)] w fun e w' => e = .returned (.bool true) ∧ Below w.heap.size w w' := by
  by_cases h : n ≤ 8 ∧ k ≤ 2
  · exact back_short m A B n c k d spot fl b o hn hk h.1 h.2 mr hs hf w hA hB
  · exact back_long m A B n c k d spot fl b o (by omega) n1 n2 w
end Go.Proofs.Ytgacfgofpanchaa
