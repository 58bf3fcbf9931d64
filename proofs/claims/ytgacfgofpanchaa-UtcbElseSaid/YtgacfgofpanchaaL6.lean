/- The walk of UtcbElse. Condition: the acts are read. -/
import Derived.Test.YtgacfgofpanchaaProg
import Derived.Test.YtgacfgofpanchaaL5
import Derived.Test.YtgacfgofpanchaaU4
import Derived.WalkKit
import Derived.WalkLawsBesides
import Derived.WalkSpells
import Derived.Deep.QuietTactic
import Derived.BigQuiet
import Derived.Deep.RegionHeld3
import Derived.Deep.RegionLaw
import Derived.Outline
import Derived.Lib.LazyBuf
import Derived.Deep.WholeRow
namespace Go.Proofs.Ytgacfgofpanchaa
open Go.RowKit

/-- outside of two blocks all is c -/
def OutOk (c : Nat) (f : Nat → Nat) : Prop := ∀ j, j < 65536 → (j < 4096 ∨ 4352 ≤ j) → (j < 4608 ∨ 4864 ≤ j) → f j = c
/-- outside of a block's head all is as it was -/
def OutA (a : Nat) (f g : Nat → Nat) : Prop := ∀ j, (j < a ∨ a + 104 ≤ j) → g j = f j
theorem OutA.putF (a : Nat) (f : Nat → Nat) (m : Msg) : OutA a f (putF f a m) := fun j h => putF_out f a m j h
theorem OutA.putU (a : Nat) (f : Nat → Nat) (m : Msg) : OutA a f (putU f a m) := fun j h => by
  unfold Go.Proofs.Ytgacfgofpanchaa.putU
  split
  · exact putF_out f a m j h
  · rfl
theorem OutA.openU (a : Nat) (f : Nat → Nat) (v : Wnd) : OutA a f (openU f a v) := fun j h => by
  unfold Go.Proofs.Ytgacfgofpanchaa.openU
  split
  · exact openF_out f a v j h
  · rfl
theorem OutOk.step {c a : Nat} {f g : Nat → Nat} (h : OutOk c f) (ha : a = 4096 ∨ a = 4608) (hg : OutA a f g) : OutOk c g := fun j h1 h2 h3 => by
  rw [hg j (by omega)]
  exact h j h1 h2 h3
theorem OutOk.fill (c : Nat) : OutOk c (fillF (fun _ => 0) 0 65536 c) := fun j h1 _ _ => by
  unfold fillF
  rw [if_pos (by omega)]
theorem byte_cell {w : World} {A : Option Addr} {f : Nat → Nat} {a n : Nat} (h : SlR w A (u8s (bytesAt f a n))) (hn : 0 < n) : ∃ b off, A = some ⟨b, off, none⟩ ∧ ∀ j, j < n → w.cell? ⟨b, off + j, none⟩ = some (.int .u8 ((f (a + j) : Nat) : Int)) := by
  obtain ⟨b, off, e, _, hc⟩ := h.byte (k := 0) (by rw [bytesAt_length]; exact hn)
  refine ⟨b, off, e, fun j hj => ?_⟩
  rw [hc j (by rw [bytesAt_length]; exact hj), bytesAt_get _ _ _ _ hj]
set_option maxRecDepth 100000 in
theorem else_long (A : Option Addr) (n cap c : Nat) (hn : 30 < n) (w : World) :
    Calls Try.prog 9 #[.slice A n cap, .int .u8 (c : Int)] w fun e w' => e = .returned (.bool true) ∧ Below w.heap.size w w' := by
  have i8 : (30 : Int) < (n : Int) := by omega
  clear hn
  go_enter Try.func9, Try.ntmps9
  go_wp2_with fail
  refine (alive_any _).mono ?_
  rintro e w1 ⟨rfl, hb1⟩
  have H1 := Lib.hid hb1
  clear hb1
  go_wp2
  go_ret
  exact ⟨rfl, H1.out⟩
set_option maxRecDepth 100000 in
set_option maxHeartbeats 12800000 in
theorem else_short (l : List Act14) (A : Option Addr) (nl cap c : Nat) (hn : l.length = nl) (h30 : nl ≤ 30) (hc : c < 256) (w : World) (hA : ActsR w A l) :
    Calls Try.prog 9 #[.slice A nl cap, .int .u8 (c : Int)] w fun e w' => e = .returned (.bool true) ∧ Below w.heap.size w w' := by
  have i8 : (nl : Int) ≤ 30 := by omega
  have HN := Lib.hid hn
  have HAc := Lib.hid hA
  have HC := Lib.hid hc
  have HP := Lib.hid (Pre.start w [] (fun s hs => absurd hs List.not_mem_nil))
  obtain ⟨f0, hf0⟩ : ∃ f0, f0 = fillF (fun _ => 0) 0 65536 c := ⟨_, rfl⟩
  have O0 : Hid (OutOk c f0) := Lib.hid (by rw [hf0]; exact OutOk.fill c)
  have E0 := Lib.hid hf0
  clear hn h30 hc hA hf0
  go_enter Try.func9, Try.ntmps9
  go_wp2_with fail
  refine (alive_any _).mono ?_
  rintro e w1 ⟨rfl, hb1⟩
  have H1 := Lib.hid (HP.out.below hb1)
  clear hb1 HP
  go_wp2_with fail
  refine (new_c H1.out).mono ?_
  rintro e w2 ⟨ga, gb, rfl, h2⟩
  have H2 := Lib.hid h2
  clear h2 H1
  go_wp2_with fail
  refine (fill_c H2.out 0 65536 c 0 65536 rfl rfl (by omega) HC.out).mono ?_
  rintro e w3 ⟨rfl, h3⟩
  rw [← E0.out] at h3
  have H3 := Lib.hid h3
  clear h3 H2
  go_wp2_with fail
  refine (at_c H3.out 4096 4096 rfl (by omega) (by omega)).mono ?_
  rintro e w4 ⟨b0, rfl, h4⟩
  have H4 := Lib.hid h4
  clear h4 H3
  go_wp2_with fail
  refine (at_c H4.out 4608 4608 rfl (by omega) (by omega)).mono ?_
  rintro e w5 ⟨b1, rfl, h5⟩
  have h6 := h5.alloc #[.pointer (some ⟨b0, 0, none⟩), .pointer (some ⟨b1, 0, none⟩)] 52
  obtain ⟨g6, hg6⟩ : ∃ g6, g6 = w5.heap.size := ⟨_, rfl⟩
  rw [← hg6] at h6
  obtain ⟨R, hR⟩ : ∃ R : List Rw, R = (g6, #[.pointer (some ⟨b0, 0, none⟩), .pointer (some ⟨b1, 0, none⟩)], 52) :: (b1, blkRow ga 4608, 79) :: (b0, blkRow ga 4096, 79) :: [] := ⟨_, rfl⟩
  rw [← hR] at h6
  have Rg : Hid ((g6, #[.pointer (some ⟨b0, 0, none⟩), .pointer (some ⟨b1, 0, none⟩)], 52) ∈ R) := Lib.hid (by rw [hR]; simp)
  have R1 : Hid ((b1, blkRow ga 4608, 79) ∈ R) := Lib.hid (by rw [hR]; simp)
  have R0 : Hid ((b0, blkRow ga 4096, 79) ∈ R) := Lib.hid (by rw [hR]; simp)
  have H6 := Lib.hid h6
  clear h5 h6 H4 hR
  go_wp2_with fail
  rw [← hg6]
  clear hg6
  go_loopw [7] (fun i wr => ∃ (q : Nat) (f : Nat → Nat), q ≤ nl ∧ i = .int .i64 q ∧ Scn w wr ga gb f R [] ∧ OutOk c f) (fun i _ => nl - (intOf i).toNat)
  case atStart => exact ⟨0, f0, Nat.zero_le _, rfl, H6.out, O0.out⟩
  case round =>
    obtain ⟨q, f, hq, rfl, hs, ho⟩ := hrel
    have HS := Lib.hid hs
    have HO := Lib.hid ho
    clear ho H6 O0
    by_cases hlt : q < nl
    · have hql : q < l.length := by rw [HN.out]; exact hlt
      obtain ⟨ba, off, rfl, _, c0, c1, c2, c3, c4, c5, c6, c7, c8⟩ := (HAc.out.below hs.way).at hql
      have hx := HAc.out.2.1 _ (List.getElem_mem hql)
      obtain ⟨x, hxe⟩ : ∃ x, l[q] = x := ⟨_, rfl⟩
      rw [hxe] at c0 c1 c2 c3 c4 c5 c6 c7 c8 hx
      have HX1 := Lib.hid hx.1
      have HX2 := Lib.hid hx.2.1
      have HX3 := Lib.hid hx.2.2.1
      have HX4 := Lib.hid hx.2.2.2.1
      obtain ⟨n, hn⟩ : ∃ n, x.m.words.length = n := ⟨_, rfl⟩
      obtain ⟨k, hk⟩ : ∃ k, x.m.items.length = k := ⟨_, rfl⟩
      rw [hn] at c5
      rw [hk] at c6
      have n63 : (n : Int) ≤ 9223372036854775807 := by have := hx.2.2.2.2.1; omega
      have k63 : (k : Int) ≤ 9223372036854775807 := by have := hx.2.2.2.2.2.1; omega
      have HNn := Lib.hid hn
      have HKk := Lib.hid hk
      have j0 : (q : Int) < (nl : Int) := by omega
      have hT := hs.alloc #[.int .i64 x.kind, .int .i64 x.bl, .int .i64 x.num, .int .u64 (x.x : Int), .int .u64 (x.m.label : Int), .slice x.A n x.ca, .slice x.B k x.cb, .int .i64 x.w.base, .int .i64 x.w.order] 58
      obtain ⟨g8, hg8⟩ : ∃ g8, g8 = wr.heap.size := ⟨_, rfl⟩
      rw [← hg8] at hT
      obtain ⟨R', hR'⟩ : ∃ R' : List Rw, R' = (g8, #[.int .i64 x.kind, .int .i64 x.bl, .int .i64 x.num, .int .u64 (x.x : Int), .int .u64 (x.m.label : Int), .slice x.A n x.ca, .slice x.B k x.cb, .int .i64 x.w.base, .int .i64 x.w.order], 58) :: R := ⟨_, rfl⟩
      rw [← hR'] at hT
      have HT := Lib.hid hT
      have Q8 : Hid ((g8, #[.int .i64 x.kind, .int .i64 x.bl, .int .i64 x.num, .int .u64 (x.x : Int), .int .u64 (x.m.label : Int), .slice x.A n x.ca, .slice x.B k x.cb, .int .i64 x.w.base, .int .i64 x.w.order], 58) ∈ R') := Lib.hid (by rw [hR']; exact List.mem_cons_self)
      have Qs : Hid (∀ r ∈ R, r ∈ R') := Lib.hid (fun r hr => by rw [hR']; exact List.mem_cons_of_mem _ hr)
      have KC : Hid (∀ (w' : World) (f : Nat → Nat) (S : List Sls), Scn w w' ga gb f R' S → w'.cell? ⟨g6, 0, none⟩ = some (.pointer (some ⟨b0, 0, none⟩)) ∧ w'.cell? ⟨g6, 1, none⟩ = some (.pointer (some ⟨b1, 0, none⟩)) ∧ w'.cell? ⟨g8, 0, none⟩ = some (.int .i64 x.kind) ∧ w'.cell? ⟨g8, 1, none⟩ = some (.int .i64 x.bl) ∧ w'.cell? ⟨g8, 3, none⟩ = some (.int .u64 (x.x : Int)) ∧ w'.cell? ⟨g8, 4, none⟩ = some (.int .u64 (x.m.label : Int)) ∧ w'.cell? ⟨g8, 5, none⟩ = some (.slice x.A n x.ca) ∧ w'.cell? ⟨g8, 6, none⟩ = some (.slice x.B k x.cb) ∧ w'.cell? ⟨g8, 7, none⟩ = some (.int .i64 x.w.base) ∧ w'.cell? ⟨g8, 8, none⟩ = some (.int .i64 x.w.order)) := Lib.hid (fun w' f S h => ⟨h.cell (Qs.out _ Rg.out) 0, h.cell (Qs.out _ Rg.out) 1, h.cell Q8.out 0, h.cell Q8.out 1, h.cell Q8.out 3, h.cell Q8.out 4, h.cell Q8.out 5, h.cell Q8.out 6, h.cell Q8.out 7, h.cell Q8.out 8⟩)
      clear hs hx hxe hn hk hT hR'
      by_cases h1 : 100 < n
      · have t1 : decide ((100 : Int) < (n : Int)) = true := decide_eq_true (by omega)
        clear h1
        go_wp2
        go_ret
        exact ⟨rfl, HT.out.way⟩
      have t1 : decide ((100 : Int) < (n : Int)) = false := decide_eq_false (by omega)
      by_cases h2 : 100 < k
      · have t2 : decide ((100 : Int) < (k : Int)) = true := decide_eq_true (by omega)
        clear h1 h2
        go_wp2
        go_ret
        exact ⟨rfl, HT.out.way⟩
      have t2 : decide ((100 : Int) < (k : Int)) = false := decide_eq_false (by omega)
      have i1 : (n : Int) ≤ 100 := by omega
      have i2 : (k : Int) ≤ 100 := by omega
      clear h1 h2
      by_cases hb : x.bl.tmod 2 = 0
      · have tb : (x.bl.tmod 2 != 0) = false := by simpa using hb
        clear hb
        go_wp2_with fail
        rw [← hg8]
        clear hg8 c0 c1 c2 c3 c4 c5 c6 c7 c8
        refine (read_c HT.out 4608 256 4608 256 rfl rfl (by omega)).mono ?_
        rintro e w1 ⟨A1, d1, rfl, h1⟩
        have H1 := Lib.hid h1
        obtain ⟨q0, q1, q2, q3, q4, q5, q6, q7, q8, q9⟩ := KC.out _ _ _ h1
        clear h1 HT
        go_wp2_with fail
        refine (read_c H1.out 4096 256 4096 256 rfl rfl (by omega)).mono ?_
        rintro e w2 ⟨A2, d2, rfl, h2⟩
        have H2 := Lib.hid h2
        clear q0 q1 q2 q3 q4 q5 q6 q7 q8 q9
        obtain ⟨q0, q1, q2, q3, q4, q5, q6, q7, q8, q9⟩ := KC.out _ _ _ h2
        clear h2 H1
        by_cases k0 : x.kind = 0
        · have t0 : (x.kind == 0) = true := by simpa using k0
          clear k0
          obtain ⟨f', hf'⟩ : ∃ f', f' = putU f 4096 x.m := ⟨_, rfl⟩
          have OF : Hid (OutA 4096 f f') := Lib.hid (by rw [hf']; exact OutA.putU _ _ _)
          have EF := Lib.hid hf'
          clear hf'
          go_wp2_with fail
          have hS := H2.out
          have hSd := H2.out.drew
          go_region_held3 (fun w' => w'.cell? ⟨g6, 0, none⟩ = some (.pointer (some ⟨b0, 0, none⟩)) ∧ w'.cell? ⟨g6, 1, none⟩ = some (.pointer (some ⟨b1, 0, none⟩)) ∧ w'.cell? ⟨g8, 0, none⟩ = some (.int .i64 x.kind) ∧ w'.cell? ⟨g8, 1, none⟩ = some (.int .i64 x.bl) ∧ w'.cell? ⟨g8, 3, none⟩ = some (.int .u64 (x.x : Int)) ∧ w'.cell? ⟨g8, 4, none⟩ = some (.int .u64 (x.m.label : Int)) ∧ w'.cell? ⟨g8, 5, none⟩ = some (.slice x.A n x.ca) ∧ w'.cell? ⟨g8, 6, none⟩ = some (.slice x.B k x.cb) ∧ w'.cell? ⟨g8, 7, none⟩ = some (.int .i64 x.w.base) ∧ w'.cell? ⟨g8, 8, none⟩ = some (.int .i64 x.w.order)) (exact KC.out _ _ _ (by assumption)) (first | (go_at_call 17; (with_reducible refine (put_c (by assumption) (Qs.out _ R0.out) (by omega) (by omega) x.m HX3.out _ rfl x.m.label rfl x.A x.B n x.ca k x.cb HNn.out HKk.out (by omega) (Scn.arg (by assumption) HX1.out) (Scn.arg (by assumption) HX2.out)).mono ?_); rintro e w3 ⟨rfl, h3⟩; rw [← EF.out] at h3))
          clear hS hSd q0 q1 q2 q3 q4 q5 q6 q7 q8 q9
          all_goals
            have H3 := Lib.hid h3
            clear h3
            go_wp2_with fail
            refine (read_c H3.out 4608 256 4608 256 rfl rfl (by omega)).mono ?_
            rintro e w4 ⟨A3, d3, rfl, h4⟩
            have H4 := Lib.hid h4
            clear h4 H3
            go_wp2_with fail
            refine (read_c H4.out 4096 256 4096 256 rfl rfl (by omega)).mono ?_
            rintro e w5 ⟨A4, d4, rfl, h5⟩
            have H5 := Lib.hid h5
            clear h5 H4
            go_wp2_with fail
            go_loopw [18] (fun i wr => ∃ p : Nat, p ≤ 256 ∧ i = .int .i64 p ∧ Scn w wr ga gb f' R' [(A4, u8s (bytesAt f' 4096 256)), (A3, u8s (bytesAt f' 4608 256)), (A2, u8s (bytesAt f 4096 256)), (A1, u8s (bytesAt f 4608 256))]) (fun i _ => 256 - (intOf i).toNat)
            case atStart => exact ⟨0, Nat.zero_le _, rfl, H5.out⟩
            case round =>
              obtain ⟨p, hp, rfl, hs⟩ := hrel
              have HSi := Lib.hid hs
              by_cases hlp : p < 256
              · obtain ⟨p4, o4, rfl, v4⟩ := byte_cell hs.s0 (by omega)
                obtain ⟨p3, o3, rfl, v3⟩ := byte_cell hs.s1 (by omega)
                obtain ⟨p2, o2, rfl, v2⟩ := byte_cell hs.s2 (by omega)
                obtain ⟨p1, o1, rfl, v1⟩ := byte_cell hs.s3 (by omega)
                have u4 := v4 p hlp
                have u3 := v3 p hlp
                have u2 := v2 p hlp
                have u1 := v1 p hlp
                rw [OF.out (4608 + p) (by omega)] at u3
                obtain ⟨y, hy⟩ : ∃ y, f (4608 + p) = y := ⟨_, rfl⟩
                rw [hy] at u1 u3
                have e1 : ((y : Int) != (y : Int)) = false := by simp
                have j1 : (p : Int) < 256 := by omega
                have j2 : (0 : Int) ≤ (p : Int) := by omega
                have HSd : Hid (∀ nq, Scn w (wr.drewN nq) ga gb f' R' [(some ⟨p4, o4, none⟩, u8s (bytesAt f' 4096 256)), (some ⟨p3, o3, none⟩, u8s (bytesAt f' 4608 256)), (some ⟨p2, o2, none⟩, u8s (bytesAt f 4096 256)), (some ⟨p1, o1, none⟩, u8s (bytesAt f 4608 256))]) := Lib.hid (fun nq => hs.below (below_drewN (Below.refl _ _) nq))
                clear v1 v2 v3 v4 hy hs
                by_cases h104 : 104 ≤ p
                · rw [OF.out (4096 + p) (by omega)] at u4
                  obtain ⟨z, hz⟩ : ∃ z, f (4096 + p) = z := ⟨_, rfl⟩
                  rw [hz] at u2 u4
                  have e2 : ((z : Int) != (z : Int)) = false := by simp
                  have e3 : decide ((104 : Int) ≤ (p : Int)) = true := decide_eq_true (by omega)
                  clear hz h104
                  go_wp2_with fail
                  go_quiet (fail)
                  go_wp2
                  go_roundw
                  case rel => exact ⟨p + 1, by omega, by go_num, HSd.out _⟩
                  case measure => simp [intOf]; omega
                · have e3 : decide ((104 : Int) ≤ (p : Int)) = false := decide_eq_false (by omega)
                  clear h104 u2 u4
                  go_wp2_with fail
                  go_quiet (fail)
                  go_wp2
                  go_roundw
                  case rel => exact ⟨p + 1, by omega, by go_num, HSd.out _⟩
                  case measure => simp [intOf]; omega
              · have j1 : ¬ (p : Int) < 256 := by omega
                clear hs hlp hp
                go_wp2
                exact ⟨⟨q + 1, f', by omega, by go_num, HSi.out.sub Qs.out (fun _ h => absurd h List.not_mem_nil), HO.out.step (by omega) OF.out⟩, by simp [intOf]; omega⟩
        have t0 : (x.kind == 0) = false := by simpa using k0
        by_cases k1 : x.kind = 1
        · have t1' : (x.kind == 1) = true := by simpa using k1
          clear k0 k1
          obtain ⟨f', hf'⟩ : ∃ f', f' = openU f 4096 ⟨x.w.base, x.w.order⟩ := ⟨_, rfl⟩
          have OF : Hid (OutA 4096 f f') := Lib.hid (by rw [hf']; exact OutA.openU _ _ _)
          have EF := Lib.hid hf'
          clear hf'
          go_wp2_with fail
          have hS := H2.out
          have hSd := H2.out.drew
          go_region_held3 (fun w' => w'.cell? ⟨g6, 0, none⟩ = some (.pointer (some ⟨b0, 0, none⟩)) ∧ w'.cell? ⟨g6, 1, none⟩ = some (.pointer (some ⟨b1, 0, none⟩)) ∧ w'.cell? ⟨g8, 0, none⟩ = some (.int .i64 x.kind) ∧ w'.cell? ⟨g8, 1, none⟩ = some (.int .i64 x.bl) ∧ w'.cell? ⟨g8, 3, none⟩ = some (.int .u64 (x.x : Int)) ∧ w'.cell? ⟨g8, 4, none⟩ = some (.int .u64 (x.m.label : Int)) ∧ w'.cell? ⟨g8, 5, none⟩ = some (.slice x.A n x.ca) ∧ w'.cell? ⟨g8, 6, none⟩ = some (.slice x.B k x.cb) ∧ w'.cell? ⟨g8, 7, none⟩ = some (.int .i64 x.w.base) ∧ w'.cell? ⟨g8, 8, none⟩ = some (.int .i64 x.w.order)) (exact KC.out _ _ _ (by assumption)) (first | (go_at_call 20; (with_reducible refine (open_u (by assumption) (Qs.out _ R0.out) (by omega) (by omega) x.w.base x.w.order _ rfl).mono ?_); rintro e w3 ⟨rfl, h3⟩; rw [← EF.out] at h3))
          clear hS hSd q0 q1 q2 q3 q4 q5 q6 q7 q8 q9
          all_goals
            have H3 := Lib.hid h3
            clear h3
            go_wp2_with fail
            refine (read_c H3.out 4608 256 4608 256 rfl rfl (by omega)).mono ?_
            rintro e w4 ⟨A3, d3, rfl, h4⟩
            have H4 := Lib.hid h4
            clear h4 H3
            go_wp2_with fail
            refine (read_c H4.out 4096 256 4096 256 rfl rfl (by omega)).mono ?_
            rintro e w5 ⟨A4, d4, rfl, h5⟩
            have H5 := Lib.hid h5
            clear h5 H4
            go_wp2_with fail
            go_loopw [18] (fun i wr => ∃ p : Nat, p ≤ 256 ∧ i = .int .i64 p ∧ Scn w wr ga gb f' R' [(A4, u8s (bytesAt f' 4096 256)), (A3, u8s (bytesAt f' 4608 256)), (A2, u8s (bytesAt f 4096 256)), (A1, u8s (bytesAt f 4608 256))]) (fun i _ => 256 - (intOf i).toNat)
            case atStart => exact ⟨0, Nat.zero_le _, rfl, H5.out⟩
            case round =>
              obtain ⟨p, hp, rfl, hs⟩ := hrel
              have HSi := Lib.hid hs
              by_cases hlp : p < 256
              · obtain ⟨p4, o4, rfl, v4⟩ := byte_cell hs.s0 (by omega)
                obtain ⟨p3, o3, rfl, v3⟩ := byte_cell hs.s1 (by omega)
                obtain ⟨p2, o2, rfl, v2⟩ := byte_cell hs.s2 (by omega)
                obtain ⟨p1, o1, rfl, v1⟩ := byte_cell hs.s3 (by omega)
                have u4 := v4 p hlp
                have u3 := v3 p hlp
                have u2 := v2 p hlp
                have u1 := v1 p hlp
                rw [OF.out (4608 + p) (by omega)] at u3
                obtain ⟨y, hy⟩ : ∃ y, f (4608 + p) = y := ⟨_, rfl⟩
                rw [hy] at u1 u3
                have e1 : ((y : Int) != (y : Int)) = false := by simp
                have j1 : (p : Int) < 256 := by omega
                have j2 : (0 : Int) ≤ (p : Int) := by omega
                have HSd : Hid (∀ nq, Scn w (wr.drewN nq) ga gb f' R' [(some ⟨p4, o4, none⟩, u8s (bytesAt f' 4096 256)), (some ⟨p3, o3, none⟩, u8s (bytesAt f' 4608 256)), (some ⟨p2, o2, none⟩, u8s (bytesAt f 4096 256)), (some ⟨p1, o1, none⟩, u8s (bytesAt f 4608 256))]) := Lib.hid (fun nq => hs.below (below_drewN (Below.refl _ _) nq))
                clear v1 v2 v3 v4 hy hs
                by_cases h104 : 104 ≤ p
                · rw [OF.out (4096 + p) (by omega)] at u4
                  obtain ⟨z, hz⟩ : ∃ z, f (4096 + p) = z := ⟨_, rfl⟩
                  rw [hz] at u2 u4
                  have e2 : ((z : Int) != (z : Int)) = false := by simp
                  have e3 : decide ((104 : Int) ≤ (p : Int)) = true := decide_eq_true (by omega)
                  clear hz h104
                  go_wp2_with fail
                  go_quiet (fail)
                  go_wp2
                  go_roundw
                  case rel => exact ⟨p + 1, by omega, by go_num, HSd.out _⟩
                  case measure => simp [intOf]; omega
                · have e3 : decide ((104 : Int) ≤ (p : Int)) = false := decide_eq_false (by omega)
                  clear h104 u2 u4
                  go_wp2_with fail
                  go_quiet (fail)
                  go_wp2
                  go_roundw
                  case rel => exact ⟨p + 1, by omega, by go_num, HSd.out _⟩
                  case measure => simp [intOf]; omega
              · have j1 : ¬ (p : Int) < 256 := by omega
                clear hs hlp hp
                go_wp2
                exact ⟨⟨q + 1, f', by omega, by go_num, HSi.out.sub Qs.out (fun _ h => absurd h List.not_mem_nil), HO.out.step (by omega) OF.out⟩, by simp [intOf]; omega⟩
        have t1' : (x.kind == 1) = false := by simpa using k1
        clear k0 k1
        obtain ⟨T, hT⟩ : ∃ T, T = toldM x.x (getM (wd f 4608)) := ⟨_, rfl⟩
        have HTT := Lib.hid hT
        obtain ⟨f', hf'⟩ : ∃ f', f' = putF f 4096 T := ⟨_, rfl⟩
        have OF : Hid (OutA 4096 f f') := Lib.hid (by rw [hf']; exact OutA.putF _ _ _)
        have EF := Lib.hid hf'
        clear hf' hT
        go_wp2_with fail
        have hS := H2.out
        have hSd := H2.out.drew
        have z0 : IntKind.i64.wrap ((1 : Int) - 0) = 1 := by decide
        have z1 : IntKind.i64.wrap ((1 : Int) - 1) = 0 := by decide
        have z2 : IntKind.i64.wrap (1 : Int) = 1 := by decide
        have z3 : IntKind.i64.wrap (0 : Int) = 0 := by decide
        go_region_held3 (fun w' => w'.cell? ⟨g6, 0, none⟩ = some (.pointer (some ⟨b0, 0, none⟩)) ∧ w'.cell? ⟨g6, 1, none⟩ = some (.pointer (some ⟨b1, 0, none⟩)) ∧ w'.cell? ⟨g8, 0, none⟩ = some (.int .i64 x.kind) ∧ w'.cell? ⟨g8, 1, none⟩ = some (.int .i64 x.bl) ∧ w'.cell? ⟨g8, 3, none⟩ = some (.int .u64 (x.x : Int)) ∧ w'.cell? ⟨g8, 4, none⟩ = some (.int .u64 (x.m.label : Int)) ∧ w'.cell? ⟨g8, 5, none⟩ = some (.slice x.A n x.ca) ∧ w'.cell? ⟨g8, 6, none⟩ = some (.slice x.B k x.cb) ∧ w'.cell? ⟨g8, 7, none⟩ = some (.int .i64 x.w.base) ∧ w'.cell? ⟨g8, 8, none⟩ = some (.int .i64 x.w.order)) (exact KC.out _ _ _ (by assumption)) (first | (go_at_call 22; (with_reducible refine (tell_c (by assumption) (Qs.out _ R1.out) (by omega) (by omega) (Qs.out _ R0.out) (by omega) (by omega) x.x HX4.out T HTT.out).mono ?_); rintro e w3 ⟨rfl, h3⟩; rw [← EF.out] at h3))
        clear hS hSd q0 q1 q2 q3 q4 q5 q6 q7 q8 q9 z0 z1 z2 z3
        all_goals
          have H3 := Lib.hid h3
          clear h3
          go_wp2_with fail
          refine (read_c H3.out 4608 256 4608 256 rfl rfl (by omega)).mono ?_
          rintro e w4 ⟨A3, d3, rfl, h4⟩
          have H4 := Lib.hid h4
          clear h4 H3
          go_wp2_with fail
          refine (read_c H4.out 4096 256 4096 256 rfl rfl (by omega)).mono ?_
          rintro e w5 ⟨A4, d4, rfl, h5⟩
          have H5 := Lib.hid h5
          clear h5 H4
          go_wp2_with fail
          go_loopw [18] (fun i wr => ∃ p : Nat, p ≤ 256 ∧ i = .int .i64 p ∧ Scn w wr ga gb f' R' [(A4, u8s (bytesAt f' 4096 256)), (A3, u8s (bytesAt f' 4608 256)), (A2, u8s (bytesAt f 4096 256)), (A1, u8s (bytesAt f 4608 256))]) (fun i _ => 256 - (intOf i).toNat)
          case atStart => exact ⟨0, Nat.zero_le _, rfl, H5.out⟩
          case round =>
            obtain ⟨p, hp, rfl, hs⟩ := hrel
            have HSi := Lib.hid hs
            by_cases hlp : p < 256
            · obtain ⟨p4, o4, rfl, v4⟩ := byte_cell hs.s0 (by omega)
              obtain ⟨p3, o3, rfl, v3⟩ := byte_cell hs.s1 (by omega)
              obtain ⟨p2, o2, rfl, v2⟩ := byte_cell hs.s2 (by omega)
              obtain ⟨p1, o1, rfl, v1⟩ := byte_cell hs.s3 (by omega)
              have u4 := v4 p hlp
              have u3 := v3 p hlp
              have u2 := v2 p hlp
              have u1 := v1 p hlp
              rw [OF.out (4608 + p) (by omega)] at u3
              obtain ⟨y, hy⟩ : ∃ y, f (4608 + p) = y := ⟨_, rfl⟩
              rw [hy] at u1 u3
              have e1 : ((y : Int) != (y : Int)) = false := by simp
              have j1 : (p : Int) < 256 := by omega
              have j2 : (0 : Int) ≤ (p : Int) := by omega
              have HSd : Hid (∀ nq, Scn w (wr.drewN nq) ga gb f' R' [(some ⟨p4, o4, none⟩, u8s (bytesAt f' 4096 256)), (some ⟨p3, o3, none⟩, u8s (bytesAt f' 4608 256)), (some ⟨p2, o2, none⟩, u8s (bytesAt f 4096 256)), (some ⟨p1, o1, none⟩, u8s (bytesAt f 4608 256))]) := Lib.hid (fun nq => hs.below (below_drewN (Below.refl _ _) nq))
              clear v1 v2 v3 v4 hy hs
              by_cases h104 : 104 ≤ p
              · rw [OF.out (4096 + p) (by omega)] at u4
                obtain ⟨z, hz⟩ : ∃ z, f (4096 + p) = z := ⟨_, rfl⟩
                rw [hz] at u2 u4
                have e2 : ((z : Int) != (z : Int)) = false := by simp
                have e3 : decide ((104 : Int) ≤ (p : Int)) = true := decide_eq_true (by omega)
                clear hz h104
                go_wp2_with fail
                go_quiet (fail)
                go_wp2
                go_roundw
                case rel => exact ⟨p + 1, by omega, by go_num, HSd.out _⟩
                case measure => simp [intOf]; omega
              · have e3 : decide ((104 : Int) ≤ (p : Int)) = false := decide_eq_false (by omega)
                clear h104 u2 u4
                go_wp2_with fail
                go_quiet (fail)
                go_wp2
                go_roundw
                case rel => exact ⟨p + 1, by omega, by go_num, HSd.out _⟩
                case measure => simp [intOf]; omega
            · have j1 : ¬ (p : Int) < 256 := by omega
              clear hs hlp hp
              go_wp2
              exact ⟨⟨q + 1, f', by omega, by go_num, HSi.out.sub Qs.out (fun _ h => absurd h List.not_mem_nil), HO.out.step (by omega) OF.out⟩, by simp [intOf]; omega⟩
      · have tb : (x.bl.tmod 2 != 0) = true := by simpa using hb
        clear hb
        go_wp2_with fail
        rw [← hg8]
        clear hg8 c0 c1 c2 c3 c4 c5 c6 c7 c8
        refine (read_c HT.out 4096 256 4096 256 rfl rfl (by omega)).mono ?_
        rintro e w1 ⟨A1, d1, rfl, h1⟩
        have H1 := Lib.hid h1
        obtain ⟨q0, q1, q2, q3, q4, q5, q6, q7, q8, q9⟩ := KC.out _ _ _ h1
        clear h1 HT
        go_wp2_with fail
        refine (read_c H1.out 4608 256 4608 256 rfl rfl (by omega)).mono ?_
        rintro e w2 ⟨A2, d2, rfl, h2⟩
        have H2 := Lib.hid h2
        clear q0 q1 q2 q3 q4 q5 q6 q7 q8 q9
        obtain ⟨q0, q1, q2, q3, q4, q5, q6, q7, q8, q9⟩ := KC.out _ _ _ h2
        clear h2 H1
        by_cases k0 : x.kind = 0
        · have t0 : (x.kind == 0) = true := by simpa using k0
          clear k0
          obtain ⟨f', hf'⟩ : ∃ f', f' = putU f 4608 x.m := ⟨_, rfl⟩
          have OF : Hid (OutA 4608 f f') := Lib.hid (by rw [hf']; exact OutA.putU _ _ _)
          have EF := Lib.hid hf'
          clear hf'
          go_wp2_with fail
          have hS := H2.out
          have hSd := H2.out.drew
          go_region_held3 (fun w' => w'.cell? ⟨g6, 0, none⟩ = some (.pointer (some ⟨b0, 0, none⟩)) ∧ w'.cell? ⟨g6, 1, none⟩ = some (.pointer (some ⟨b1, 0, none⟩)) ∧ w'.cell? ⟨g8, 0, none⟩ = some (.int .i64 x.kind) ∧ w'.cell? ⟨g8, 1, none⟩ = some (.int .i64 x.bl) ∧ w'.cell? ⟨g8, 3, none⟩ = some (.int .u64 (x.x : Int)) ∧ w'.cell? ⟨g8, 4, none⟩ = some (.int .u64 (x.m.label : Int)) ∧ w'.cell? ⟨g8, 5, none⟩ = some (.slice x.A n x.ca) ∧ w'.cell? ⟨g8, 6, none⟩ = some (.slice x.B k x.cb) ∧ w'.cell? ⟨g8, 7, none⟩ = some (.int .i64 x.w.base) ∧ w'.cell? ⟨g8, 8, none⟩ = some (.int .i64 x.w.order)) (exact KC.out _ _ _ (by assumption)) (first | (go_at_call 17; (with_reducible refine (put_c (by assumption) (Qs.out _ R1.out) (by omega) (by omega) x.m HX3.out _ rfl x.m.label rfl x.A x.B n x.ca k x.cb HNn.out HKk.out (by omega) (Scn.arg (by assumption) HX1.out) (Scn.arg (by assumption) HX2.out)).mono ?_); rintro e w3 ⟨rfl, h3⟩; rw [← EF.out] at h3))
          clear hS hSd q0 q1 q2 q3 q4 q5 q6 q7 q8 q9
          all_goals
            have H3 := Lib.hid h3
            clear h3
            go_wp2_with fail
            refine (read_c H3.out 4096 256 4096 256 rfl rfl (by omega)).mono ?_
            rintro e w4 ⟨A3, d3, rfl, h4⟩
            have H4 := Lib.hid h4
            clear h4 H3
            go_wp2_with fail
            refine (read_c H4.out 4608 256 4608 256 rfl rfl (by omega)).mono ?_
            rintro e w5 ⟨A4, d4, rfl, h5⟩
            have H5 := Lib.hid h5
            clear h5 H4
            go_wp2_with fail
            go_loopw [18] (fun i wr => ∃ p : Nat, p ≤ 256 ∧ i = .int .i64 p ∧ Scn w wr ga gb f' R' [(A4, u8s (bytesAt f' 4608 256)), (A3, u8s (bytesAt f' 4096 256)), (A2, u8s (bytesAt f 4608 256)), (A1, u8s (bytesAt f 4096 256))]) (fun i _ => 256 - (intOf i).toNat)
            case atStart => exact ⟨0, Nat.zero_le _, rfl, H5.out⟩
            case round =>
              obtain ⟨p, hp, rfl, hs⟩ := hrel
              have HSi := Lib.hid hs
              by_cases hlp : p < 256
              · obtain ⟨p4, o4, rfl, v4⟩ := byte_cell hs.s0 (by omega)
                obtain ⟨p3, o3, rfl, v3⟩ := byte_cell hs.s1 (by omega)
                obtain ⟨p2, o2, rfl, v2⟩ := byte_cell hs.s2 (by omega)
                obtain ⟨p1, o1, rfl, v1⟩ := byte_cell hs.s3 (by omega)
                have u4 := v4 p hlp
                have u3 := v3 p hlp
                have u2 := v2 p hlp
                have u1 := v1 p hlp
                rw [OF.out (4096 + p) (by omega)] at u3
                obtain ⟨y, hy⟩ : ∃ y, f (4096 + p) = y := ⟨_, rfl⟩
                rw [hy] at u1 u3
                have e1 : ((y : Int) != (y : Int)) = false := by simp
                have j1 : (p : Int) < 256 := by omega
                have j2 : (0 : Int) ≤ (p : Int) := by omega
                have HSd : Hid (∀ nq, Scn w (wr.drewN nq) ga gb f' R' [(some ⟨p4, o4, none⟩, u8s (bytesAt f' 4608 256)), (some ⟨p3, o3, none⟩, u8s (bytesAt f' 4096 256)), (some ⟨p2, o2, none⟩, u8s (bytesAt f 4608 256)), (some ⟨p1, o1, none⟩, u8s (bytesAt f 4096 256))]) := Lib.hid (fun nq => hs.below (below_drewN (Below.refl _ _) nq))
                clear v1 v2 v3 v4 hy hs
                by_cases h104 : 104 ≤ p
                · rw [OF.out (4608 + p) (by omega)] at u4
                  obtain ⟨z, hz⟩ : ∃ z, f (4608 + p) = z := ⟨_, rfl⟩
                  rw [hz] at u2 u4
                  have e2 : ((z : Int) != (z : Int)) = false := by simp
                  have e3 : decide ((104 : Int) ≤ (p : Int)) = true := decide_eq_true (by omega)
                  clear hz h104
                  go_wp2_with fail
                  go_quiet (fail)
                  go_wp2
                  go_roundw
                  case rel => exact ⟨p + 1, by omega, by go_num, HSd.out _⟩
                  case measure => simp [intOf]; omega
                · have e3 : decide ((104 : Int) ≤ (p : Int)) = false := decide_eq_false (by omega)
                  clear h104 u2 u4
                  go_wp2_with fail
                  go_quiet (fail)
                  go_wp2
                  go_roundw
                  case rel => exact ⟨p + 1, by omega, by go_num, HSd.out _⟩
                  case measure => simp [intOf]; omega
              · have j1 : ¬ (p : Int) < 256 := by omega
                clear hs hlp hp
                go_wp2
                exact ⟨⟨q + 1, f', by omega, by go_num, HSi.out.sub Qs.out (fun _ h => absurd h List.not_mem_nil), HO.out.step (by omega) OF.out⟩, by simp [intOf]; omega⟩
        have t0 : (x.kind == 0) = false := by simpa using k0
        by_cases k1 : x.kind = 1
        · have t1' : (x.kind == 1) = true := by simpa using k1
          clear k0 k1
          obtain ⟨f', hf'⟩ : ∃ f', f' = openU f 4608 ⟨x.w.base, x.w.order⟩ := ⟨_, rfl⟩
          have OF : Hid (OutA 4608 f f') := Lib.hid (by rw [hf']; exact OutA.openU _ _ _)
          have EF := Lib.hid hf'
          clear hf'
          go_wp2_with fail
          have hS := H2.out
          have hSd := H2.out.drew
          go_region_held3 (fun w' => w'.cell? ⟨g6, 0, none⟩ = some (.pointer (some ⟨b0, 0, none⟩)) ∧ w'.cell? ⟨g6, 1, none⟩ = some (.pointer (some ⟨b1, 0, none⟩)) ∧ w'.cell? ⟨g8, 0, none⟩ = some (.int .i64 x.kind) ∧ w'.cell? ⟨g8, 1, none⟩ = some (.int .i64 x.bl) ∧ w'.cell? ⟨g8, 3, none⟩ = some (.int .u64 (x.x : Int)) ∧ w'.cell? ⟨g8, 4, none⟩ = some (.int .u64 (x.m.label : Int)) ∧ w'.cell? ⟨g8, 5, none⟩ = some (.slice x.A n x.ca) ∧ w'.cell? ⟨g8, 6, none⟩ = some (.slice x.B k x.cb) ∧ w'.cell? ⟨g8, 7, none⟩ = some (.int .i64 x.w.base) ∧ w'.cell? ⟨g8, 8, none⟩ = some (.int .i64 x.w.order)) (exact KC.out _ _ _ (by assumption)) (first | (go_at_call 20; (with_reducible refine (open_u (by assumption) (Qs.out _ R1.out) (by omega) (by omega) x.w.base x.w.order _ rfl).mono ?_); rintro e w3 ⟨rfl, h3⟩; rw [← EF.out] at h3))
          clear hS hSd q0 q1 q2 q3 q4 q5 q6 q7 q8 q9
          all_goals
            have H3 := Lib.hid h3
            clear h3
            go_wp2_with fail
            refine (read_c H3.out 4096 256 4096 256 rfl rfl (by omega)).mono ?_
            rintro e w4 ⟨A3, d3, rfl, h4⟩
            have H4 := Lib.hid h4
            clear h4 H3
            go_wp2_with fail
            refine (read_c H4.out 4608 256 4608 256 rfl rfl (by omega)).mono ?_
            rintro e w5 ⟨A4, d4, rfl, h5⟩
            have H5 := Lib.hid h5
            clear h5 H4
            go_wp2_with fail
            go_loopw [18] (fun i wr => ∃ p : Nat, p ≤ 256 ∧ i = .int .i64 p ∧ Scn w wr ga gb f' R' [(A4, u8s (bytesAt f' 4608 256)), (A3, u8s (bytesAt f' 4096 256)), (A2, u8s (bytesAt f 4608 256)), (A1, u8s (bytesAt f 4096 256))]) (fun i _ => 256 - (intOf i).toNat)
            case atStart => exact ⟨0, Nat.zero_le _, rfl, H5.out⟩
            case round =>
              obtain ⟨p, hp, rfl, hs⟩ := hrel
              have HSi := Lib.hid hs
              by_cases hlp : p < 256
              · obtain ⟨p4, o4, rfl, v4⟩ := byte_cell hs.s0 (by omega)
                obtain ⟨p3, o3, rfl, v3⟩ := byte_cell hs.s1 (by omega)
                obtain ⟨p2, o2, rfl, v2⟩ := byte_cell hs.s2 (by omega)
                obtain ⟨p1, o1, rfl, v1⟩ := byte_cell hs.s3 (by omega)
                have u4 := v4 p hlp
                have u3 := v3 p hlp
                have u2 := v2 p hlp
                have u1 := v1 p hlp
                rw [OF.out (4096 + p) (by omega)] at u3
                obtain ⟨y, hy⟩ : ∃ y, f (4096 + p) = y := ⟨_, rfl⟩
                rw [hy] at u1 u3
                have e1 : ((y : Int) != (y : Int)) = false := by simp
                have j1 : (p : Int) < 256 := by omega
                have j2 : (0 : Int) ≤ (p : Int) := by omega
                have HSd : Hid (∀ nq, Scn w (wr.drewN nq) ga gb f' R' [(some ⟨p4, o4, none⟩, u8s (bytesAt f' 4608 256)), (some ⟨p3, o3, none⟩, u8s (bytesAt f' 4096 256)), (some ⟨p2, o2, none⟩, u8s (bytesAt f 4608 256)), (some ⟨p1, o1, none⟩, u8s (bytesAt f 4096 256))]) := Lib.hid (fun nq => hs.below (below_drewN (Below.refl _ _) nq))
                clear v1 v2 v3 v4 hy hs
                by_cases h104 : 104 ≤ p
                · rw [OF.out (4608 + p) (by omega)] at u4
                  obtain ⟨z, hz⟩ : ∃ z, f (4608 + p) = z := ⟨_, rfl⟩
                  rw [hz] at u2 u4
                  have e2 : ((z : Int) != (z : Int)) = false := by simp
                  have e3 : decide ((104 : Int) ≤ (p : Int)) = true := decide_eq_true (by omega)
                  clear hz h104
                  go_wp2_with fail
                  go_quiet (fail)
                  go_wp2
                  go_roundw
                  case rel => exact ⟨p + 1, by omega, by go_num, HSd.out _⟩
                  case measure => simp [intOf]; omega
                · have e3 : decide ((104 : Int) ≤ (p : Int)) = false := decide_eq_false (by omega)
                  clear h104 u2 u4
                  go_wp2_with fail
                  go_quiet (fail)
                  go_wp2
                  go_roundw
                  case rel => exact ⟨p + 1, by omega, by go_num, HSd.out _⟩
                  case measure => simp [intOf]; omega
              · have j1 : ¬ (p : Int) < 256 := by omega
                clear hs hlp hp
                go_wp2
                exact ⟨⟨q + 1, f', by omega, by go_num, HSi.out.sub Qs.out (fun _ h => absurd h List.not_mem_nil), HO.out.step (by omega) OF.out⟩, by simp [intOf]; omega⟩
        have t1' : (x.kind == 1) = false := by simpa using k1
        clear k0 k1
        obtain ⟨T, hT⟩ : ∃ T, T = toldM x.x (getM (wd f 4096)) := ⟨_, rfl⟩
        have HTT := Lib.hid hT
        obtain ⟨f', hf'⟩ : ∃ f', f' = putF f 4608 T := ⟨_, rfl⟩
        have OF : Hid (OutA 4608 f f') := Lib.hid (by rw [hf']; exact OutA.putF _ _ _)
        have EF := Lib.hid hf'
        clear hf' hT
        go_wp2_with fail
        have hS := H2.out
        have hSd := H2.out.drew
        have z0 : IntKind.i64.wrap ((1 : Int) - 0) = 1 := by decide
        have z1 : IntKind.i64.wrap ((1 : Int) - 1) = 0 := by decide
        have z2 : IntKind.i64.wrap (1 : Int) = 1 := by decide
        have z3 : IntKind.i64.wrap (0 : Int) = 0 := by decide
        go_region_held3 (fun w' => w'.cell? ⟨g6, 0, none⟩ = some (.pointer (some ⟨b0, 0, none⟩)) ∧ w'.cell? ⟨g6, 1, none⟩ = some (.pointer (some ⟨b1, 0, none⟩)) ∧ w'.cell? ⟨g8, 0, none⟩ = some (.int .i64 x.kind) ∧ w'.cell? ⟨g8, 1, none⟩ = some (.int .i64 x.bl) ∧ w'.cell? ⟨g8, 3, none⟩ = some (.int .u64 (x.x : Int)) ∧ w'.cell? ⟨g8, 4, none⟩ = some (.int .u64 (x.m.label : Int)) ∧ w'.cell? ⟨g8, 5, none⟩ = some (.slice x.A n x.ca) ∧ w'.cell? ⟨g8, 6, none⟩ = some (.slice x.B k x.cb) ∧ w'.cell? ⟨g8, 7, none⟩ = some (.int .i64 x.w.base) ∧ w'.cell? ⟨g8, 8, none⟩ = some (.int .i64 x.w.order)) (exact KC.out _ _ _ (by assumption)) (first | (go_at_call 22; (with_reducible refine (tell_c (by assumption) (Qs.out _ R0.out) (by omega) (by omega) (Qs.out _ R1.out) (by omega) (by omega) x.x HX4.out T HTT.out).mono ?_); rintro e w3 ⟨rfl, h3⟩; rw [← EF.out] at h3))
        clear hS hSd q0 q1 q2 q3 q4 q5 q6 q7 q8 q9 z0 z1 z2 z3
        all_goals
          have H3 := Lib.hid h3
          clear h3
          go_wp2_with fail
          refine (read_c H3.out 4096 256 4096 256 rfl rfl (by omega)).mono ?_
          rintro e w4 ⟨A3, d3, rfl, h4⟩
          have H4 := Lib.hid h4
          clear h4 H3
          go_wp2_with fail
          refine (read_c H4.out 4608 256 4608 256 rfl rfl (by omega)).mono ?_
          rintro e w5 ⟨A4, d4, rfl, h5⟩
          have H5 := Lib.hid h5
          clear h5 H4
          go_wp2_with fail
          go_loopw [18] (fun i wr => ∃ p : Nat, p ≤ 256 ∧ i = .int .i64 p ∧ Scn w wr ga gb f' R' [(A4, u8s (bytesAt f' 4608 256)), (A3, u8s (bytesAt f' 4096 256)), (A2, u8s (bytesAt f 4608 256)), (A1, u8s (bytesAt f 4096 256))]) (fun i _ => 256 - (intOf i).toNat)
          case atStart => exact ⟨0, Nat.zero_le _, rfl, H5.out⟩
          case round =>
            obtain ⟨p, hp, rfl, hs⟩ := hrel
            have HSi := Lib.hid hs
            by_cases hlp : p < 256
            · obtain ⟨p4, o4, rfl, v4⟩ := byte_cell hs.s0 (by omega)
              obtain ⟨p3, o3, rfl, v3⟩ := byte_cell hs.s1 (by omega)
              obtain ⟨p2, o2, rfl, v2⟩ := byte_cell hs.s2 (by omega)
              obtain ⟨p1, o1, rfl, v1⟩ := byte_cell hs.s3 (by omega)
              have u4 := v4 p hlp
              have u3 := v3 p hlp
              have u2 := v2 p hlp
              have u1 := v1 p hlp
              rw [OF.out (4096 + p) (by omega)] at u3
              obtain ⟨y, hy⟩ : ∃ y, f (4096 + p) = y := ⟨_, rfl⟩
              rw [hy] at u1 u3
              have e1 : ((y : Int) != (y : Int)) = false := by simp
              have j1 : (p : Int) < 256 := by omega
              have j2 : (0 : Int) ≤ (p : Int) := by omega
              have HSd : Hid (∀ nq, Scn w (wr.drewN nq) ga gb f' R' [(some ⟨p4, o4, none⟩, u8s (bytesAt f' 4608 256)), (some ⟨p3, o3, none⟩, u8s (bytesAt f' 4096 256)), (some ⟨p2, o2, none⟩, u8s (bytesAt f 4608 256)), (some ⟨p1, o1, none⟩, u8s (bytesAt f 4096 256))]) := Lib.hid (fun nq => hs.below (below_drewN (Below.refl _ _) nq))
              clear v1 v2 v3 v4 hy hs
              by_cases h104 : 104 ≤ p
              · rw [OF.out (4608 + p) (by omega)] at u4
                obtain ⟨z, hz⟩ : ∃ z, f (4608 + p) = z := ⟨_, rfl⟩
                rw [hz] at u2 u4
                have e2 : ((z : Int) != (z : Int)) = false := by simp
                have e3 : decide ((104 : Int) ≤ (p : Int)) = true := decide_eq_true (by omega)
                clear hz h104
                go_wp2_with fail
                go_quiet (fail)
                go_wp2
                go_roundw
                case rel => exact ⟨p + 1, by omega, by go_num, HSd.out _⟩
                case measure => simp [intOf]; omega
              · have e3 : decide ((104 : Int) ≤ (p : Int)) = false := decide_eq_false (by omega)
                clear h104 u2 u4
                go_wp2_with fail
                go_quiet (fail)
                go_wp2
                go_roundw
                case rel => exact ⟨p + 1, by omega, by go_num, HSd.out _⟩
                case measure => simp [intOf]; omega
            · have j1 : ¬ (p : Int) < 256 := by omega
              clear hs hlp hp
              go_wp2
              exact ⟨⟨q + 1, f', by omega, by go_num, HSi.out.sub Qs.out (fun _ h => absurd h List.not_mem_nil), HO.out.step (by omega) OF.out⟩, by simp [intOf]; omega⟩
    · have j0 : ¬ (q : Int) < (nl : Int) := by omega
      clear hlt hq hs
      go_wp2_with fail
      refine (read_c HS.out 0 65536 0 65536 rfl rfl (by omega)).mono ?_
      rintro e w2 ⟨A9, d9, rfl, h9⟩
      have HB : Hid (Below w.heap.size w w2) := Lib.hid h9.way
      obtain ⟨p9, o9, rfl, v9⟩ := byte_cell h9.s0 (by omega)
      have HV : Hid (∀ j, j < 65536 → w2.cell? ⟨p9, o9 + j, none⟩ = some (.int .u8 ((f j : Nat) : Int))) := Lib.hid (fun j hj => by rw [v9 j hj, Nat.zero_add])
      clear v9 h9
      go_wp2_with fail
      obtain ⟨N, hN⟩ : ∃ N : Nat, N = 65536 := ⟨_, rfl⟩
      have HN6 := Lib.hid hN
      clear hN
      go_loopw [21] (fun i wr => ∃ j : Nat, j ≤ N ∧ i = .int .i64 j ∧ wr = w2) (fun i _ => N - (intOf i).toNat)
      case atStart => exact ⟨0, Nat.zero_le _, rfl, rfl⟩
      case round =>
        obtain ⟨j, hj, rfl, rfl⟩ := hrel
        by_cases hlj : j < N
        · have v := HV.out j (by have := HN6.out; omega)
          have j1 : (j : Int) < 65536 := by have := HN6.out; omega
          have j2 : (0 : Int) ≤ (j : Int) := by omega
          by_cases hv : f j = c
          · rw [hv] at v
            have e1 : ((c : Int) != (c : Int)) = false := by simp
            clear hv
            go_wp2
            go_roundw
            case rel => exact ⟨j + 1, by omega, by go_num, by first | rfl | trivial⟩
            case measure => simp [intOf]; omega
          · have hr : ¬ ((j < 4096 ∨ 4352 ≤ j) ∧ (j < 4608 ∨ 4864 ≤ j)) := fun h => hv (HO.out j (by have := HN6.out; omega) h.1 h.2)
            obtain ⟨y, hy⟩ : ∃ y, f j = y := ⟨_, rfl⟩
            rw [hy] at v hv
            have e1 : ((y : Int) != (c : Int)) = true := by simp; omega
            clear hv hy
            by_cases h1 : 4096 ≤ j ∧ j < 4352
            · have k1 : decide ((j : Int) < 4096) = false := decide_eq_false (by omega)
              have k2 : decide ((4352 : Int) ≤ (j : Int)) = false := decide_eq_false (by omega)
              clear h1 hr
              go_wp2
              go_roundw
              case rel => exact ⟨j + 1, by omega, by go_num, by first | rfl | trivial⟩
              case measure => simp [intOf]; omega
            · have k0 : 4608 ≤ j ∧ j < 4864 := by omega
              have k1 : decide ((j : Int) < 4096) = false := decide_eq_false (by omega)
              have k2 : decide ((4352 : Int) ≤ (j : Int)) = true := decide_eq_true (by omega)
              have k3 : decide ((j : Int) < 4608) = false := decide_eq_false (by omega)
              have k4 : decide ((4864 : Int) ≤ (j : Int)) = false := decide_eq_false (by omega)
              clear h1 hr k0
              go_wp2
              go_roundw
              case rel => exact ⟨j + 1, by omega, by go_num, by first | rfl | trivial⟩
              case measure => simp [intOf]; omega
        · have j1 : ¬ (j : Int) < 65536 := by have := HN6.out; omega
          clear hj hlj
          go_wp2
          go_ret
          exact ⟨rfl, HB.out⟩
theorem else_any (l : List Act14) (A : Option Addr) (nl cap c : Nat) (hn : l.length = nl) (hc : c < 256) (w : World) (hA : ActsR w A l) :
    Calls Try.prog 9 #[.slice A nl cap, .int .u8 (c : Int)] w fun e w' => e = .returned (.bool true) ∧ Below w.heap.size w w' := by
  by_cases h : nl ≤ 30
  · exact else_short l A nl cap c hn h hc w hA
  · exact else_long A nl cap c (by omega) w
end Go.Proofs.Ytgacfgofpanchaa
