/- The reference's Take. Condition: its row is read and written. -/
import Derived.Test.YtflkoabgkgegjaaGreatDoorY25
/- The reference's Take. Condition: its row is read and written. -/
namespace Go.Proofs.YtflkoabgkgegjaaGreatDoor
open Go.RowKit

def kOf (w : World) (b : Nat) : Nat := match w.cell? ⟨b, 1, none⟩ with
  | some v => (intOf v).toNat
  | none => 0
theorem RX.kOf {w0 w : World} {g top b : Nat} {A1 A2 : Option Addr} {c1 c2 : Nat} {LF LU : List (Nat × Nat)} {X K : Int} (h : RX w0 w g top b A1 c1 LF A2 c2 LU X K) : kOf w b = K.toNat := by
  unfold Go.Proofs.YtflkoabgkgegjaaGreatDoor.kOf
  rw [h.bx.x1]
  rfl
theorem len_good {top : Nat} {l : List Tl} (f : Bool) (hg : Good top l) (ht : top ≤ 20) : (blks f 0 l).length ≤ 1048576 := by
  have h1 := blks_length f 0 l
  have h2 := hg.all
  have h3 : 2 ^ top ≤ 2 ^ 20 := Nat.pow_le_pow_right (by decide) ht
  omega
theorem PutR.len {L L' : List (Nat × Nat)} {x : Nat × Nat} (h : PutR L x L') : L'.length = L.length + 1 := by
  obtain ⟨k, hk, rfl, _⟩ := h
  simp only [List.length_append, List.length_take, List.length_cons, List.length_drop]
  omega
set_option maxRecDepth 100000 in
set_option maxHeartbeats 3200000 in
theorem rtake_any {w : World} {g top : Nat} {A1 A2 : Option Addr} {c1 c2 : Nat} {l : List Tl} (h : RB w g top A1 c1 (blks true 0 l) A2 c2 (blks false 0 l)) (hg : Good top l) (ht : top ≤ 20) (o : Int) :
    Calls Tryz.prog 80 #[.pointer (some ⟨g, 0, none⟩), .int .i64 o] w fun e w' => ∃ (at_ er : Int), e = .returned (.tuple #[.int .i64 at_, .int .i64 er]) ∧ ∃ l' : List Tl, TakeR top l o at_ er l' ∧ (∃ B1 d1 B2 d2, RB w' g top B1 d1 (blks true 0 l') B2 d2 (blks false 0 l')) ∧ w.grownBy w' (some g) := by
  have k0 := h.r0
  have k1 := h.r1
  have HH := Lib.hid h
  have HG := Lib.hid hg
  have HT := Lib.hid ht
  have hlen := blks_length true 0 l
  have hsp := hg.all
  have htp : 2 ^ top ≤ 2 ^ 20 := Nat.pow_le_pow_right (by decide) ht
  have HLE : Hid ((blks true 0 l).length ≤ 1048576) := Lib.hid (by rw [hsp] at hlen; omega)
  have hlen2 := blks_length false 0 l
  have HLE2 : Hid ((blks false 0 l).length ≤ 1048576) := Lib.hid (by rw [hsp] at hlen2; omega)
  obtain ⟨T, hTT⟩ : ∃ T : Int, (top : Int) = T := ⟨_, rfl⟩
  have HTT := Lib.hid hTT
  rw [hTT] at k0
  clear h hg ht hlen hsp htp hlen2
  by_cases ho : o < 0
  · have t1 : decide (o < 0) = true := decide_eq_true ho
    clear hTT
    go_enter Tryz.func80, Tryz.ntmps80
    go_wp2_with fail
    go_ret2
    exact ⟨0, 1, rfl, l, .inl ⟨.inl ho, rfl, rfl, rfl⟩, ⟨_, _, _, _, HH.out⟩, World.grownBy.refl _ _⟩
  by_cases ho2 : T < o
  · have t1 : decide (o < 0) = false := decide_eq_false ho
    have t2 : decide (T < o) = true := decide_eq_true ho2
    clear hTT
    go_enter Tryz.func80, Tryz.ntmps80
    go_wp2_with fail
    go_ret2
    exact ⟨0, 1, rfl, l, .inl ⟨.inr (by rw [HTT.out]; exact ho2), rfl, rfl, rfl⟩, ⟨_, _, _, _, HH.out⟩, World.grownBy.refl _ _⟩
  obtain ⟨q, hq⟩ := Int.eq_ofNat_of_zero_le (show 0 ≤ o by omega)
  have t1 : decide (o < 0) = false := decide_eq_false ho
  have t2 : decide (T < o) = false := decide_eq_false ho2
  have HQ := Lib.hid hq
  have HQT : Hid (q ≤ top) := Lib.hid (by omega)
  obtain ⟨L, hL⟩ : ∃ L, blks true 0 l = L := ⟨_, rfl⟩
  have HLL := Lib.hid hL
  rw [hL] at k1 HLE
  have HF : Hid (SlR w A1 (bCells L)) := Lib.hid (by rw [← hL]; exact HH.out.f.sl)
  obtain ⟨m, hm⟩ : ∃ m, L.length = m := ⟨_, rfl⟩
  rw [hm] at k1
  have HM := Lib.hid hm
  clear hTT hq ho ho2 hL hm
  go_enter Tryz.func80, Tryz.ntmps80
  go_wp2_with fail
  go_loopw [6, 7] (fun b i wr => ∃ (k : Nat) (r : Int), k ≤ m ∧ b = .int .i64 r ∧ i = .int .i64 (k : Int) ∧ BestP L q k r ∧ wr = w) (fun _ i _ => m - (intOf i).toNat)
  case atStart => exact ⟨0, -1, Nat.zero_le _, rfl, rfl, bestP_zero L q, rfl⟩
  case round =>
    obtain ⟨k, r, hk, rfl, rfl, hb, hw⟩ := hrel
    have hw2 := hw.symm
    clear hw
    subst hw2
    have HB := Lib.hid hb
    clear hb
    by_cases hlt : k < m
    · have i0 : (0 : Int) ≤ (k : Int) := by omega
      have i1 : (k : Int) < (m : Int) := by omega
      have hkl : k < L.length := by have := HM.out; omega
      obtain ⟨a, off, ea, _, d1, d2⟩ := HF.out.blk' hkl
      rw [ea] at k1
      obtain ⟨x2, hx2⟩ : ∃ x2 : Nat, L[k].2 = x2 := ⟨_, rfl⟩
      rw [hx2] at d2
      obtain ⟨X, hX⟩ : ∃ X : Int, (x2 : Int) = X := ⟨_, rfl⟩
      rw [hX] at d2
      have zk : IntKind.i64.wrap ((k : Int) + 1) = (k : Int) + 1 := by rw [IntKind.wrap_i64]; have := HLE.out; have := HM.out; omega
      have KM : Hid (k + 1 ≤ m) := Lib.hid hlt
      by_cases e1 : X < o
      · have HN : Hid (BestP L q (k + 1) r) := Lib.hid (bestP_small HB.out hkl (by have := HQ.out; omega))
        have s1 : decide (o ≤ X) = false := decide_eq_false (by omega)
        clear hX hx2 hkl hlt d1 e1 hk ea
        go_wp2_with fail
        go_roundw
        case rel => exact ⟨k + 1, r, KM.out, rfl, by go_num, HN.out, by first | rfl | trivial⟩
        case measure => have := KM.out; (try simp [intOf]) <;> omega
      · have s1 : decide (o ≤ X) = true := decide_eq_true (by omega)
        by_cases e2 : r < 0
        · have HN : Hid (BestP L q (k + 1) (k : Int)) := Lib.hid (bestP_first HB.out e2 hkl (by have := HQ.out; omega))
          have s2 : decide (r < 0) = true := decide_eq_true e2
          clear hX hx2 hkl hlt d1 e1 e2 hk ea
          go_wp2_with fail
          go_roundw
          case rel => exact ⟨k + 1, _, KM.out, rfl, by go_num, HN.out, by first | rfl | trivial⟩
          case measure => have := KM.out; (try simp [intOf]) <;> omega
        · have s2 : decide (r < 0) = false := decide_eq_false e2
          obtain ⟨i, rfl⟩ := Int.eq_ofNat_of_zero_le (show 0 ≤ r by omega)
          have hil : i < L.length := by
            rcases HB.out with ⟨h1, _⟩ | ⟨i', h1, _, h2, _⟩ <;> omega
          obtain ⟨a', off', ea', _, d3, d4⟩ := HF.out.blk' hil
          rw [ea] at ea'
          injection ea' with ea'
          injection ea' with e3 e4
          subst e3 e4
          have j0 : (0 : Int) ≤ (i : Int) := by omega
          have j1 : (i : Int) < (m : Int) := by have := HM.out; omega
          obtain ⟨y2, hy2⟩ : ∃ y2 : Nat, L[i].2 = y2 := ⟨_, rfl⟩
          rw [hy2] at d4
          obtain ⟨Y, hY⟩ : ∃ Y : Int, (y2 : Int) = Y := ⟨_, rfl⟩
          rw [hY] at d4
          by_cases e5 : X < Y
          · have s3 : decide (X < Y) = true := decide_eq_true e5
            have HN : Hid (BestP L q (k + 1) (k : Int)) := Lib.hid (bestP_less HB.out hil hkl (by have := HQ.out; omega) (by omega))
            clear hX hx2 hkl hlt d1 e1 e2 hk ea hY hy2 hil d3 e5
            go_wp2_with fail
            go_roundw
            case rel => exact ⟨k + 1, _, KM.out, rfl, by go_num, HN.out, by first | rfl | trivial⟩
            case measure => have := KM.out; (try simp [intOf]) <;> omega
          · have s3 : decide (X < Y) = false := decide_eq_false e5
            have HN : Hid (BestP L q (k + 1) (i : Int)) := Lib.hid (bestP_more HB.out hil hkl (by omega))
            clear hX hx2 hkl hlt d1 e1 e2 hk ea hY hy2 hil d3 e5
            go_wp2_with fail
            go_roundw
            case rel => exact ⟨k + 1, _, KM.out, rfl, by go_num, HN.out, by first | rfl | trivial⟩
            case measure => have := KM.out; (try simp [intOf]) <;> omega
    · have i1 : ¬ ((k : Int) < (m : Int)) := by omega
      have hkm : k = m := by omega
      by_cases e2 : r < 0
      · have s2 : decide (r < 0) = true := decide_eq_true e2
        have hr : r = -1 := by
          rcases HB.out with ⟨h1, _⟩ | ⟨i', h1, _, h2, _⟩ <;> omega
        have HN : Hid (∀ x ∈ blks true 0 l, x.2 < q) := Lib.hid (bestP_none (n := k) (by rw [HLL.out, ← hr]; exact HB.out) (by rw [HLL.out, HM.out]; exact hkm))
        clear hkm hlt hk hr e2
        go_wp2_with fail
        go_ret2
        exact ⟨0, 4, rfl, l, .inr ⟨q, HQ.out, HQT.out, .inl ⟨HN.out, rfl, rfl, rfl⟩⟩, ⟨_, _, _, _, HH.out⟩, World.grownBy.refl _ _⟩
      · have s2 : decide (r < 0) = false := decide_eq_false e2
        obtain ⟨i, rfl⟩ := Int.eq_ofNat_of_zero_le (show 0 ≤ r by omega)
        have hil : i < L.length := by
          rcases HB.out with ⟨h1, _⟩ | ⟨i', h1, _, h2, _⟩ <;> omega
        obtain ⟨a', off', ea', _, d3, d4⟩ := HF.out.blk' hil
        rw [ea'] at k1
        have j0 : (0 : Int) ≤ (i : Int) := by omega
        have j1 : (i : Int) < (m : Int) := by have := HM.out; omega
        obtain ⟨kk, a, c, hl, hqk, hix, hmin, hlow⟩ := bestP_split (l := l) (n := k) (i := i) (q := q) (by rw [HLL.out]; exact HB.out) (by rw [HLL.out, HM.out]; exact hkm) (by rw [HLL.out]; exact hil)
        have hix2 : L[i] = (span a, kk) := by
          have : ∀ (M : List (Nat × Nat)) (h : i < M.length), M = L → M[i] = L[i] := fun M h e => by subst e; rfl
          rw [← hix]
          exact (this _ _ HLL.out).symm
        rw [hix2] at d3 d4
        have HIX : Hid (∃ hi : i < L.length, L[i].1 = span a) := Lib.hid ⟨hil, by rw [hix2]⟩
        obtain ⟨X, hX⟩ : ∃ X : Int, ((1024 * span a : Nat) : Int) = X := ⟨_, rfl⟩
        obtain ⟨K, hK⟩ : ∃ K : Int, (kk : Int) = K := ⟨_, rfl⟩
        simp only [hX, hK] at d3 d4
        have HX := Lib.hid hX
        have HK := Lib.hid hK
        have HL1 := Lib.hid hl
        have HQK := Lib.hid hqk
        have HMIN := Lib.hid hmin
        have HLOW := Lib.hid hlow
        clear hkm hlt hk e2 hX hK hil hix2 hix hl hqk hmin hlow
        have ca := HH.out.cf
        rw [HLL.out, HM.out] at ca
        have hx0 := RX.start HH.out X K (cs := #[.int .i64 X, .int .i64 K]) rfl
        have kq1 := hx0.rb.r1
        rw [HLL.out, HM.out, ea'] at kq1
        have HX0 := Lib.hid hx0
        clear hx0
        go_wp2_with fail
        refine (cut_r L m HM.out.symm (by have := HM.out; have := HLE.out; omega) _ c1 ca i (by omega) _ rfl _ (by rw [← ea']; exact HF.out.below ((Below.refl _ _).alloc (Nat.le_refl _) _))).mono ?_
        rintro e w1 ⟨A', n', c', rfl, hn1, hn2, hh, hfr, hb1⟩
        have hct := cut_take (k := kk) (a := a) (c := c) (i := i) (by rw [← HL1.out, HLL.out]; exact HIX.out.1) (by
          have : ∀ (M : List (Nat × Nat)) (h : i < M.length), M = L → M[i].1 = span a := fun M h e => by subst e; exact HIX.out.2
          exact this _ _ (by rw [← HL1.out, HLL.out]))
        rw [← HL1.out, HLL.out] at hct
        have hlen1 := congrArg List.length hct
        rw [List.length_append, List.length_take, List.length_drop, HM.out] at hlen1
        rw [hct] at hh
        have hx1 := HX0.out.below hb1
        have kc := hx1.rb.r1
        have kf := hx1.rb.froz 1
        have HX2 := Lib.hid (hx1.setF (m := n') hh (by omega) hn2 (fun _ a0 ea0 => by
          have := hfr a0 ea0
          rw [World.size_alloc] at this
          omega))
        clear hct hlen1 hh hx1 hb1 hn1 hn2 hfr ca kq1
        go_wp2
        go_loopw [] (fun wr => ∃ (j : Nat) (B1 : Option Addr) (d1 : Nat), q ≤ j ∧ j ≤ kk ∧ RX w wr g top w.heap.size B1 d1 (blks true 0 (takeT j kk a c)) A2 c2 (blks false 0 l) X (j : Int)) (fun wr => kOf wr w.heap.size)
        case atStart => exact ⟨kk, _, _, HQK.out, Nat.le_refl _, by rw [HK.out]; exact HX2.out⟩
        case round =>
          obtain ⟨j, B1, d1, hqj, hjk, hx⟩ := hrel
          have x0 := hx.bx.x0
          have x1 := hx.bx.x1
          have xf := hx.bx.froz 1
          have HMe : Hid (kOf wr w.heap.size = j) := Lib.hid (by rw [hx.kOf]; exact Int.toNat_natCast _)
          obtain ⟨J, hJ⟩ : ∃ J : Int, (j : Int) = J := ⟨_, rfl⟩
          rw [hJ] at x1
          have HJ := Lib.hid hJ
          have HXX := Lib.hid hx
          have HQJ := Lib.hid hqj
          have HJK := Lib.hid hjk
          have HKT : Hid (kk ≤ top) := Lib.hid (by
            have := HG.out.le (kk, true) (by rw [HL1.out]; simp)
            exact this)
          by_cases hlt : q < j
          · obtain ⟨j', hj'⟩ : ∃ j', j = j' + 1 := ⟨j - 1, by omega⟩
            subst hj'
            have e1 : decide (o < J) = true := decide_eq_true (by have := HQ.out; omega)
            obtain ⟨J1, hJ1⟩ : ∃ J1 : Int, (j' : Int) = J1 := ⟨_, rfl⟩
            have hj20 : j' ≤ 20 := by have := HKT.out; have := HT.out; omega
            have zj : IntKind.i64.wrap (J - 1) = J1 := by rw [IntKind.wrap_i64]; omega
            have HJ1 := Lib.hid hJ1
            have HJ20 := Lib.hid hj20
            have hxs := hx.set1 J1
            have HXS := Lib.hid hxs
            have HLT := Lib.hid hlt
            obtain ⟨Z, hZ⟩ : ∃ Z : Int, ((1024 * 2 ^ j' : Nat) : Int) = Z := ⟨_, rfl⟩
            obtain ⟨Y, hY⟩ : ∃ Y : Int, X + Z = Y := ⟨_, rfl⟩
            have HY : Hid (Y = ((1024 * (span a + 2 ^ j') : Nat) : Int)) := Lib.hid (by have := HX.out; omega)
            have hsp : span a + 2 ^ kk ≤ 2 ^ 20 := by
              have h1 := HG.out.all
              rw [HL1.out, span_append] at h1
              simp only [span] at h1
              have h2 : 2 ^ top ≤ 2 ^ 20 := Nat.pow_le_pow_right (by decide) HT.out
              omega
            have hjp : 2 ^ j' ≤ 2 ^ kk := Nat.pow_le_pow_right (by decide) (by omega)
            have zY : IntKind.i64.wrap (X + Z) = Y := by have := HY.out; rw [hY, IntKind.wrap_i64]; omega
            have HZ := Lib.hid hZ
            have hsy : span (takeT (j' + 1) kk a c) = span l := by
              have := (take_good (k := kk) (a := a) (b := c) (o := j' + 1) (by rw [← HL1.out]; exact HG.out) hjk).all
              rw [this, HG.out.all]
            have hlm := len_good true (take_good (k := kk) (a := a) (b := c) (o := j' + 1) (by rw [← HL1.out]; exact HG.out) hjk) HT.out
            have HLM := Lib.hid hlm
            clear hx hJ hqj hjk hJ1 hj20 hZ hY hsp hjp hsy hlm hlt
            go_wp2_with fail
            generalize hws : wr.setCell ⟨w.heap.size, 1, none⟩ (.int .i64 J1) = ws
            rw [hws] at hxs HXS
            have y0 := hxs.bx.x0
            have y1 := hxs.bx.x1
            have yr := hxs.rb.r1
            have hxd := hxs.below (Below.refl _ _).drew
            have HXD := Lib.hid hxd
            have yd := hxd.rb.r1
            have SK : Hid (∀ w' B d L, RX w w' g top w.heap.size B d L A2 c2 (blks false 0 l) X J1 → w'.cell? ⟨w.heap.size, 0, none⟩ = some (.int .i64 X) ∧ w'.cell? ⟨w.heap.size, 1, none⟩ = some (.int .i64 J1)) := Lib.hid (fun w' _ _ _ h => ⟨h.bx.x0, h.bx.x1⟩)
            have PT : Hid (∀ L', PutR (blks true 0 (takeT (j' + 1) kk a c)) (span a + 2 ^ j', j') L' → L' = blks true 0 (takeT j' kk a c)) := Lib.hid (fun L' hp => put_take (by have := HJK.out; omega) hp)
            have BB : Hid (w.heap.size < ws.drew.heap.size) := Lib.hid (blt hxd.bx)
            clear hws hxs x0 x1 xf HXS yr y0 y1
            refine wp_region_held_drew (S := (fun w' => w'.cell? ⟨w.heap.size, 0, none⟩ = some (.int .i64 X) ∧ w'.cell? ⟨w.heap.size, 1, none⟩ = some (.int .i64 J1))) (by kernel_rfl) (SK.out _ _ _ _ hxd) (fun hHeld => ?_)
            refine wpAnyH_take (i := 0) (oi := { dst := some 83, op := Op.move (Operand.tmp 0), type := 53, pos := "ref.go:79", after := #[], guard := none }) (v := ?_) rfl (by kernel_rfl) (by kernel_rfl) (by kernel_rfl) (fun _ _ _ h => h) (Or.inl ⟨by rfl, ?_⟩) hHeld ?_
            rotate_left
            · intro w hSw
              (try dsimp only at hSw)
              go_simp
              try with_reducible rfl
            try simp only [Act.put, List.setIfInBounds_toArray, List.set_cons_zero, List.set_cons_succ]
            refine wpAnyH_take (i := 1) (oi := { dst := some 84, op := Op.move (Operand.tmp 0), type := 53, pos := "ref.go:79", after := #[], guard := none }) (v := ?_) rfl (by kernel_rfl) (by kernel_rfl) (by kernel_rfl) (fun _ _ _ h => h) (Or.inl ⟨by rfl, ?_⟩) hHeld ?_
            rotate_left
            · intro w hSw
              (try dsimp only at hSw)
              go_simp
              try with_reducible rfl
            try simp only [Act.put, List.setIfInBounds_toArray, List.set_cons_zero, List.set_cons_succ]
            refine wpAnyH_take (i := 2) (oi := { dst := some 85, op := Op.nilCheck (Operand.tmp 84), type := 0, pos := "ref.go:79", after := #[{ on := 1, ground := Ground.data }], guard := none }) (v := ?_) rfl (by kernel_rfl) (by kernel_rfl) (by kernel_rfl) (fun _ _ _ h => h) (Or.inl ⟨by rfl, ?_⟩) hHeld ?_
            rotate_left
            · intro w hSw
              (try dsimp only at hSw)
              go_simp
              try with_reducible rfl
            try simp only [Act.put, List.setIfInBounds_toArray, List.set_cons_zero, List.set_cons_succ]
            refine wpAnyH_take (i := 3) (oi := { dst := some 86, op := Op.fieldAddr 138 (Operand.tmp 85) 1, type := 0, pos := "ref.go:79", after := #[{ on := 2, ground := Ground.data }], guard := none }) (v := ?_) rfl (by kernel_rfl) (by kernel_rfl) (by kernel_rfl) (fun _ _ _ h => h) (Or.inl ⟨by rfl, ?_⟩) hHeld ?_
            rotate_left
            · intro w hSw
              (try dsimp only at hSw)
              go_simp
              try with_reducible rfl
            try simp only [Act.put, List.setIfInBounds_toArray, List.set_cons_zero, List.set_cons_succ]
            refine wpAnyH_take (i := 5) (oi := { dst := some 88, op := Op.fieldAddr 135 (Operand.tmp 9) 0, type := 0, pos := "ref.go:79", after := #[], guard := none }) (v := ?_) rfl (by kernel_rfl) (by kernel_rfl) (by kernel_rfl) (fun _ _ _ h => h) (Or.inl ⟨by rfl, ?_⟩) hHeld ?_
            rotate_left
            · intro w hSw
              (try dsimp only at hSw)
              go_simp
              try with_reducible rfl
            try simp only [Act.put, List.setIfInBounds_toArray, List.set_cons_zero, List.set_cons_succ]
            refine wpAnyH_take (i := 6) (oi := { dst := some 89, op := Op.load 3 (Operand.tmp 88), type := 3, pos := "ref.go:79", after := #[{ on := 5, ground := Ground.data }], guard := none }) (v := ?_) rfl (by kernel_rfl) (by kernel_rfl) (by kernel_rfl) (fun _ _ _ h => h) (Or.inl ⟨by rfl, ?_⟩) hHeld ?_
            rotate_left
            · intro w hSw
              (try dsimp only at hSw)
              go_simp
              try with_reducible rfl
            try simp only [Act.put, List.setIfInBounds_toArray, List.set_cons_zero, List.set_cons_succ]
            refine wpAnyH_take (i := 7) (oi := { dst := some 90, op := Op.fieldAddr 135 (Operand.tmp 9) 1, type := 0, pos := "ref.go:79", after := #[], guard := none }) (v := ?_) rfl (by kernel_rfl) (by kernel_rfl) (by kernel_rfl) (fun _ _ _ h => h) (Or.inl ⟨by rfl, ?_⟩) hHeld ?_
            rotate_left
            · intro w hSw
              (try dsimp only at hSw)
              go_simp
              try with_reducible rfl
            try simp only [Act.put, List.setIfInBounds_toArray, List.set_cons_zero, List.set_cons_succ]
            refine wpAnyH_take (i := 8) (oi := { dst := some 91, op := Op.load 3 (Operand.tmp 90), type := 3, pos := "ref.go:79", after := #[{ on := 7, ground := Ground.data }], guard := none }) (v := ?_) rfl (by kernel_rfl) (by kernel_rfl) (by kernel_rfl) (fun _ _ _ h => h) (Or.inl ⟨by rfl, ?_⟩) hHeld ?_
            rotate_left
            · intro w hSw
              (try dsimp only at hSw)
              go_simp
              try with_reducible rfl
            try simp only [Act.put, List.setIfInBounds_toArray, List.set_cons_zero, List.set_cons_succ]
            refine wpAnyH_take (i := 11) (oi := { dst := some 94, op := Op.fieldAddr 135 (Operand.tmp 9) 1, type := 0, pos := "ref.go:79", after := #[], guard := none }) (v := ?_) rfl (by kernel_rfl) (by kernel_rfl) (by kernel_rfl) (fun _ _ _ h => h) (Or.inl ⟨by rfl, ?_⟩) hHeld ?_
            rotate_left
            · intro w hSw
              (try dsimp only at hSw)
              go_simp
              try with_reducible rfl
            try simp only [Act.put, List.setIfInBounds_toArray, List.set_cons_zero, List.set_cons_succ]
            refine wpAnyH_take (i := 12) (oi := { dst := some 95, op := Op.load 3 (Operand.tmp 94), type := 3, pos := "ref.go:79", after := #[{ on := 11, ground := Ground.data }], guard := none }) (v := ?_) rfl (by kernel_rfl) (by kernel_rfl) (by kernel_rfl) (fun _ _ _ h => h) (Or.inl ⟨by rfl, ?_⟩) hHeld ?_
            rotate_left
            · intro w hSw
              (try dsimp only at hSw)
              go_simp
              try with_reducible rfl
            try simp only [Act.put, List.setIfInBounds_toArray, List.set_cons_zero, List.set_cons_succ]
            refine wpAnyH_ready (rs := [4, 9]) (by kernel_rfl) (by simp) ?_
            refine AllReadyH.cons (o := { dst := some 87, op := Op.load 136 (Operand.tmp 86), type := 136, pos := "ref.go:79", after := #[{ on := 3, ground := Ground.data }], guard := none }) rfl (fun K hK => ?_) (AllReadyH.cons (o := { dst := some 92, op := Op.call { callee := Callee.value (Operand.func 67), args := #[Operand.tmp 91], argTypes := #[3] }, type := 3, pos := "ref.go:79", after := #[{ on := 8, ground := Ground.data }], guard := none }) rfl (fun K hK => ?_) AllReadyH.nil)
            · go_simp
              try go_simp
              refine hK.out _ _ (SK.out _ _ _ _ (by assumption)) (fun hHeld => ?_)
              clear hK K
              try simp only [Act.put, List.setIfInBounds_toArray, List.set_cons_zero, List.set_cons_succ]
              refine wpAnyH_ready (rs := [9]) (by kernel_rfl) (by simp) ?_
              refine AllReadyH.cons (o := { dst := some 92, op := Op.call { callee := Callee.value (Operand.func 67), args := #[Operand.tmp 91], argTypes := #[3] }, type := 3, pos := "ref.go:79", after := #[{ on := 8, ground := Ground.data }], guard := none }) rfl (fun K hK => ?_) AllReadyH.nil
              go_simp
              go_at_call 67; (with_reducible refine (size_r j' HJ20.out J1 HJ1.out.symm _).mono ?_); rintro e w8 ⟨rfl, rfl⟩; rw [HZ.out]
              try go_simp
              refine hK.out _ _ (SK.out _ _ _ _ (by assumption)) (fun hHeld => ?_)
              clear hK K
              try simp only [Act.put, List.setIfInBounds_toArray, List.set_cons_zero, List.set_cons_succ]
              refine wpAnyH_take (i := 10) (oi := { dst := some 93, op := Op.binOp BinOp.add 3 (Operand.tmp 89) (Operand.tmp 92) 3, type := 3, pos := "ref.go:79", after := #[{ on := 6, ground := Ground.data }, { on := 9, ground := Ground.data }], guard := none }) (v := ?_) rfl (by kernel_rfl) (by kernel_rfl) (by kernel_rfl) (fun _ _ _ h => h) (Or.inl ⟨by rfl, ?_⟩) hHeld ?_
              rotate_left
              · intro w hSw
                (try dsimp only at hSw)
                go_simp
                try with_reducible rfl
              try simp only [Act.put, List.setIfInBounds_toArray, List.set_cons_zero, List.set_cons_succ]
              refine wpAnyH_take (i := 13) (oi := { dst := some 96, op := Op.build 135 #[(0, Operand.tmp 93), (1, Operand.tmp 95)], type := 135, pos := "ref.go:79", after := #[{ on := 10, ground := Ground.data }, { on := 12, ground := Ground.data }], guard := none }) (v := ?_) rfl (by kernel_rfl) (by kernel_rfl) (by kernel_rfl) (fun _ _ _ h => h) (Or.inl ⟨by rfl, ?_⟩) hHeld ?_
              rotate_left
              · intro w hSw
                (try dsimp only at hSw)
                go_simp
                try with_reducible rfl
              try simp only [Act.put, List.setIfInBounds_toArray, List.set_cons_zero, List.set_cons_succ]
              refine wpAnyH_ready (rs := [14]) (by kernel_rfl) (by simp) ?_
              refine AllReadyH.cons (o := { dst := some 97, op := Op.call { callee := Callee.value (Operand.func 97), args := #[Operand.tmp 87, Operand.tmp 96], argTypes := #[136, 135] }, type := 136, pos := "ref.go:79", after := #[{ on := 4, ground := Ground.data }, { on := 13, ground := Ground.data }, { on := 9, ground := Ground.chain }], guard := none }) rfl (fun K hK => ?_) AllReadyH.nil
              go_simp
              go_at_call 97; (with_reducible refine (put_r (blks true 0 (takeT (j' + 1) kk a c)) _ rfl HLM.out B1 d1 HXD.out.rb.cf (span a + 2 ^ j', j') Y J1 HY.out HJ1.out.symm _ HXD.out.rb.f.sl).mono ?_); rintro e w9 ⟨A', c', L', rfl, hc9, hp9, hh9, hfr9, hb9⟩; have hx9 := HXD.out.below hb9; have z9 := hx9.rb.r1; have f9 := hx9.rb.froz 1; have hn9 := hp9.len; have hs9 := hx9.setF hh9 hn9.symm hc9 (fun _ a0 ea0 => by have h1 := hfr9 a0 ea0; have h2 := BB.out; omega)
              try go_simp
              refine hK.out _ _ (SK.out _ _ _ _ (by assumption)) (fun hHeld => ?_)
              clear hK K
              try simp only [Act.put, List.setIfInBounds_toArray, List.set_cons_zero, List.set_cons_succ]
              refine wpAnyH_take (i := 15) (oi := { dst := some 98, op := Op.nilCheck (Operand.tmp 83), type := 0, pos := "ref.go:79", after := #[{ on := 0, ground := Ground.data }, { on := 0, ground := Ground.phase }, { on := 1, ground := Ground.phase }, { on := 2, ground := Ground.phase }, { on := 3, ground := Ground.phase }, { on := 4, ground := Ground.phase }, { on := 5, ground := Ground.phase }, { on := 6, ground := Ground.phase }, { on := 7, ground := Ground.phase }, { on := 8, ground := Ground.phase }, { on := 9, ground := Ground.phase }, { on := 10, ground := Ground.phase }, { on := 11, ground := Ground.phase }, { on := 12, ground := Ground.phase }, { on := 13, ground := Ground.phase }, { on := 14, ground := Ground.phase }], guard := none }) (v := ?_) rfl (by kernel_rfl) (by kernel_rfl) (by kernel_rfl) (fun _ _ _ h => h) (Or.inl ⟨by rfl, ?_⟩) hHeld ?_
              rotate_left
              · intro w hSw
                (try dsimp only at hSw)
                go_simp
                try with_reducible rfl
              try simp only [Act.put, List.setIfInBounds_toArray, List.set_cons_zero, List.set_cons_succ]
              refine wpAnyH_take (i := 16) (oi := { dst := some 99, op := Op.fieldAddr 138 (Operand.tmp 98) 1, type := 0, pos := "ref.go:79", after := #[{ on := 15, ground := Ground.data }, { on := 0, ground := Ground.phase }, { on := 1, ground := Ground.phase }, { on := 2, ground := Ground.phase }, { on := 3, ground := Ground.phase }, { on := 4, ground := Ground.phase }, { on := 5, ground := Ground.phase }, { on := 6, ground := Ground.phase }, { on := 7, ground := Ground.phase }, { on := 8, ground := Ground.phase }, { on := 9, ground := Ground.phase }, { on := 10, ground := Ground.phase }, { on := 11, ground := Ground.phase }, { on := 12, ground := Ground.phase }, { on := 13, ground := Ground.phase }, { on := 14, ground := Ground.phase }], guard := none }) (v := ?_) rfl (by kernel_rfl) (by kernel_rfl) (by kernel_rfl) (fun _ _ _ h => h) (Or.inl ⟨by rfl, ?_⟩) hHeld ?_
              rotate_left
              · intro w hSw
                (try dsimp only at hSw)
                go_simp
                try with_reducible rfl
              try simp only [Act.put, List.setIfInBounds_toArray, List.set_cons_zero, List.set_cons_succ]
              refine wpAnyH_ready (rs := [17]) (by kernel_rfl) (by simp) ?_
              refine AllReadyH.cons (o := { dst := none, op := Op.store 136 (Operand.tmp 99) (Operand.tmp 97), type := 0, pos := "ref.go:79", after := #[{ on := 16, ground := Ground.data }, { on := 14, ground := Ground.data }, { on := 14, ground := Ground.chain }, { on := 0, ground := Ground.phase }, { on := 1, ground := Ground.phase }, { on := 2, ground := Ground.phase }, { on := 3, ground := Ground.phase }, { on := 4, ground := Ground.phase }, { on := 5, ground := Ground.phase }, { on := 6, ground := Ground.phase }, { on := 7, ground := Ground.phase }, { on := 8, ground := Ground.phase }, { on := 9, ground := Ground.phase }, { on := 10, ground := Ground.phase }, { on := 11, ground := Ground.phase }, { on := 12, ground := Ground.phase }, { on := 13, ground := Ground.phase }, { on := 14, ground := Ground.phase }], guard := none }) rfl (fun K hK => ?_) AllReadyH.nil
              go_simp
              try go_simp
              refine hK.out _ _ (SK.out _ _ _ _ (by assumption)) (fun hHeld => ?_)
              clear hK K
              try simp only [Act.put, List.setIfInBounds_toArray, List.set_cons_zero, List.set_cons_succ]
              refine wpAnyH_done (by kernel_rfl) ?_ _
              have hL9 : L' = blks true 0 (takeT j' kk a c) := PT.out _ hp9
              rw [hL9] at hs9
              have HX9 := Lib.hid hs9
              clear hp9 hn9 hL9 hh9 hfr9 hb9 hx9 hc9 hs9 z9 f9 yd
              go_wp2
              go_roundw
              case rel => exact ⟨j', A', c', by have := HLT.out; omega, by have := HJK.out; omega, by rw [HJ1.out]; exact HX9.out⟩
              case measure => rw [HX9.out.kOf, HMe.out, ← HJ1.out]; omega
            · go_simp
              go_at_call 67; (with_reducible refine (size_r j' HJ20.out J1 HJ1.out.symm _).mono ?_); rintro e w8 ⟨rfl, rfl⟩; rw [HZ.out]
              try go_simp
              refine hK.out _ _ (SK.out _ _ _ _ (by assumption)) (fun hHeld => ?_)
              clear hK K
              try simp only [Act.put, List.setIfInBounds_toArray, List.set_cons_zero, List.set_cons_succ]
              refine wpAnyH_take (i := 10) (oi := { dst := some 93, op := Op.binOp BinOp.add 3 (Operand.tmp 89) (Operand.tmp 92) 3, type := 3, pos := "ref.go:79", after := #[{ on := 6, ground := Ground.data }, { on := 9, ground := Ground.data }], guard := none }) (v := ?_) rfl (by kernel_rfl) (by kernel_rfl) (by kernel_rfl) (fun _ _ _ h => h) (Or.inl ⟨by rfl, ?_⟩) hHeld ?_
              rotate_left
              · intro w hSw
                (try dsimp only at hSw)
                go_simp
                try with_reducible rfl
              try simp only [Act.put, List.setIfInBounds_toArray, List.set_cons_zero, List.set_cons_succ]
              refine wpAnyH_take (i := 13) (oi := { dst := some 96, op := Op.build 135 #[(0, Operand.tmp 93), (1, Operand.tmp 95)], type := 135, pos := "ref.go:79", after := #[{ on := 10, ground := Ground.data }, { on := 12, ground := Ground.data }], guard := none }) (v := ?_) rfl (by kernel_rfl) (by kernel_rfl) (by kernel_rfl) (fun _ _ _ h => h) (Or.inl ⟨by rfl, ?_⟩) hHeld ?_
              rotate_left
              · intro w hSw
                (try dsimp only at hSw)
                go_simp
                try with_reducible rfl
              try simp only [Act.put, List.setIfInBounds_toArray, List.set_cons_zero, List.set_cons_succ]
              refine wpAnyH_ready (rs := [4]) (by kernel_rfl) (by simp) ?_
              refine AllReadyH.cons (o := { dst := some 87, op := Op.load 136 (Operand.tmp 86), type := 136, pos := "ref.go:79", after := #[{ on := 3, ground := Ground.data }], guard := none }) rfl (fun K hK => ?_) AllReadyH.nil
              go_simp
              try go_simp
              refine hK.out _ _ (SK.out _ _ _ _ (by assumption)) (fun hHeld => ?_)
              clear hK K
              try simp only [Act.put, List.setIfInBounds_toArray, List.set_cons_zero, List.set_cons_succ]
              refine wpAnyH_ready (rs := [14]) (by kernel_rfl) (by simp) ?_
              refine AllReadyH.cons (o := { dst := some 97, op := Op.call { callee := Callee.value (Operand.func 97), args := #[Operand.tmp 87, Operand.tmp 96], argTypes := #[136, 135] }, type := 136, pos := "ref.go:79", after := #[{ on := 4, ground := Ground.data }, { on := 13, ground := Ground.data }, { on := 9, ground := Ground.chain }], guard := none }) rfl (fun K hK => ?_) AllReadyH.nil
              go_simp
              go_at_call 97; (with_reducible refine (put_r (blks true 0 (takeT (j' + 1) kk a c)) _ rfl HLM.out B1 d1 HXD.out.rb.cf (span a + 2 ^ j', j') Y J1 HY.out HJ1.out.symm _ HXD.out.rb.f.sl).mono ?_); rintro e w9 ⟨A', c', L', rfl, hc9, hp9, hh9, hfr9, hb9⟩; have hx9 := HXD.out.below hb9; have z9 := hx9.rb.r1; have f9 := hx9.rb.froz 1; have hn9 := hp9.len; have hs9 := hx9.setF hh9 hn9.symm hc9 (fun _ a0 ea0 => by have h1 := hfr9 a0 ea0; have h2 := BB.out; omega)
              try go_simp
              refine hK.out _ _ (SK.out _ _ _ _ (by assumption)) (fun hHeld => ?_)
              clear hK K
              try simp only [Act.put, List.setIfInBounds_toArray, List.set_cons_zero, List.set_cons_succ]
              refine wpAnyH_take (i := 15) (oi := { dst := some 98, op := Op.nilCheck (Operand.tmp 83), type := 0, pos := "ref.go:79", after := #[{ on := 0, ground := Ground.data }, { on := 0, ground := Ground.phase }, { on := 1, ground := Ground.phase }, { on := 2, ground := Ground.phase }, { on := 3, ground := Ground.phase }, { on := 4, ground := Ground.phase }, { on := 5, ground := Ground.phase }, { on := 6, ground := Ground.phase }, { on := 7, ground := Ground.phase }, { on := 8, ground := Ground.phase }, { on := 9, ground := Ground.phase }, { on := 10, ground := Ground.phase }, { on := 11, ground := Ground.phase }, { on := 12, ground := Ground.phase }, { on := 13, ground := Ground.phase }, { on := 14, ground := Ground.phase }], guard := none }) (v := ?_) rfl (by kernel_rfl) (by kernel_rfl) (by kernel_rfl) (fun _ _ _ h => h) (Or.inl ⟨by rfl, ?_⟩) hHeld ?_
              rotate_left
              · intro w hSw
                (try dsimp only at hSw)
                go_simp
                try with_reducible rfl
              try simp only [Act.put, List.setIfInBounds_toArray, List.set_cons_zero, List.set_cons_succ]
              refine wpAnyH_take (i := 16) (oi := { dst := some 99, op := Op.fieldAddr 138 (Operand.tmp 98) 1, type := 0, pos := "ref.go:79", after := #[{ on := 15, ground := Ground.data }, { on := 0, ground := Ground.phase }, { on := 1, ground := Ground.phase }, { on := 2, ground := Ground.phase }, { on := 3, ground := Ground.phase }, { on := 4, ground := Ground.phase }, { on := 5, ground := Ground.phase }, { on := 6, ground := Ground.phase }, { on := 7, ground := Ground.phase }, { on := 8, ground := Ground.phase }, { on := 9, ground := Ground.phase }, { on := 10, ground := Ground.phase }, { on := 11, ground := Ground.phase }, { on := 12, ground := Ground.phase }, { on := 13, ground := Ground.phase }, { on := 14, ground := Ground.phase }], guard := none }) (v := ?_) rfl (by kernel_rfl) (by kernel_rfl) (by kernel_rfl) (fun _ _ _ h => h) (Or.inl ⟨by rfl, ?_⟩) hHeld ?_
              rotate_left
              · intro w hSw
                (try dsimp only at hSw)
                go_simp
                try with_reducible rfl
              try simp only [Act.put, List.setIfInBounds_toArray, List.set_cons_zero, List.set_cons_succ]
              refine wpAnyH_ready (rs := [17]) (by kernel_rfl) (by simp) ?_
              refine AllReadyH.cons (o := { dst := none, op := Op.store 136 (Operand.tmp 99) (Operand.tmp 97), type := 0, pos := "ref.go:79", after := #[{ on := 16, ground := Ground.data }, { on := 14, ground := Ground.data }, { on := 14, ground := Ground.chain }, { on := 0, ground := Ground.phase }, { on := 1, ground := Ground.phase }, { on := 2, ground := Ground.phase }, { on := 3, ground := Ground.phase }, { on := 4, ground := Ground.phase }, { on := 5, ground := Ground.phase }, { on := 6, ground := Ground.phase }, { on := 7, ground := Ground.phase }, { on := 8, ground := Ground.phase }, { on := 9, ground := Ground.phase }, { on := 10, ground := Ground.phase }, { on := 11, ground := Ground.phase }, { on := 12, ground := Ground.phase }, { on := 13, ground := Ground.phase }, { on := 14, ground := Ground.phase }], guard := none }) rfl (fun K hK => ?_) AllReadyH.nil
              go_simp
              try go_simp
              refine hK.out _ _ (SK.out _ _ _ _ (by assumption)) (fun hHeld => ?_)
              clear hK K
              try simp only [Act.put, List.setIfInBounds_toArray, List.set_cons_zero, List.set_cons_succ]
              refine wpAnyH_done (by kernel_rfl) ?_ _
              have hL9 : L' = blks true 0 (takeT j' kk a c) := PT.out _ hp9
              rw [hL9] at hs9
              have HX9 := Lib.hid hs9
              clear hp9 hn9 hL9 hh9 hfr9 hb9 hx9 hc9 hs9 z9 f9 yd
              go_wp2
              go_roundw
              case rel => exact ⟨j', A', c', by have := HLT.out; omega, by have := HJK.out; omega, by rw [HJ1.out]; exact HX9.out⟩
              case measure => rw [HX9.out.kOf, HMe.out, ← HJ1.out]; omega
          · have hjq : j = q := by omega
            subst hjq
            have e1 : decide (o < J) = false := decide_eq_false (by have := HQ.out; omega)
            have y2 := hx.rb.r2
            have HTU : Hid (TakeR top l o X 0 (takeT j kk a c)) := Lib.hid (.inr ⟨j, HQ.out, HQT.out, .inr ⟨kk, a, c, HL1.out, HQK.out, HMIN.out, HLOW.out, HX.out.symm, rfl, rfl⟩⟩)
            have hxd := hx.below (Below.refl _ _).drew
            have HXD := Lib.hid hxd
            have yd := hxd.rb.r2
            have SK : Hid (∀ w' B d L, RX w w' g top w.heap.size B1 d1 (blks true 0 (takeT j kk a c)) B d L X J → w'.cell? ⟨w.heap.size, 0, none⟩ = some (.int .i64 X) ∧ w'.cell? ⟨w.heap.size, 1, none⟩ = some (.int .i64 J)) := Lib.hid (fun w' _ _ _ h => ⟨h.bx.x0, h.bx.x1⟩)
            have PT : Hid (∀ L', PutR (blks false 0 l) (span a, j) L' → L' = blks false 0 (takeT j kk a c)) := Lib.hid (fun L' hp => put_used HQK.out (by rw [← HL1.out]; exact hp))
            have BB : Hid (w.heap.size < wr.drew.heap.size) := Lib.hid (blt hxd.bx)
            rw [hJ] at hxd HXD
            clear hx hqj hjk hlt hJ
            go_wp2_with fail
            refine wp_region_held_drew (S := (fun w' => w'.cell? ⟨w.heap.size, 0, none⟩ = some (.int .i64 X) ∧ w'.cell? ⟨w.heap.size, 1, none⟩ = some (.int .i64 J))) (by kernel_rfl) (SK.out _ _ _ _ hxd) (fun hHeld => ?_)
            refine wpAnyH_take (i := 0) (oi := { dst := some 100, op := Op.move (Operand.tmp 0), type := 53, pos := "ref.go:81", after := #[], guard := none }) (v := ?_) rfl (by kernel_rfl) (by kernel_rfl) (by kernel_rfl) (fun _ _ _ h => h) (Or.inl ⟨by rfl, ?_⟩) hHeld ?_
            rotate_left
            · intro w hSw
              (try dsimp only at hSw)
              go_simp
              try with_reducible rfl
            try simp only [Act.put, List.setIfInBounds_toArray, List.set_cons_zero, List.set_cons_succ]
            refine wpAnyH_take (i := 1) (oi := { dst := some 101, op := Op.move (Operand.tmp 0), type := 53, pos := "ref.go:81", after := #[], guard := none }) (v := ?_) rfl (by kernel_rfl) (by kernel_rfl) (by kernel_rfl) (fun _ _ _ h => h) (Or.inl ⟨by rfl, ?_⟩) hHeld ?_
            rotate_left
            · intro w hSw
              (try dsimp only at hSw)
              go_simp
              try with_reducible rfl
            try simp only [Act.put, List.setIfInBounds_toArray, List.set_cons_zero, List.set_cons_succ]
            refine wpAnyH_take (i := 2) (oi := { dst := some 102, op := Op.nilCheck (Operand.tmp 101), type := 0, pos := "ref.go:81", after := #[{ on := 1, ground := Ground.data }], guard := none }) (v := ?_) rfl (by kernel_rfl) (by kernel_rfl) (by kernel_rfl) (fun _ _ _ h => h) (Or.inl ⟨by rfl, ?_⟩) hHeld ?_
            rotate_left
            · intro w hSw
              (try dsimp only at hSw)
              go_simp
              try with_reducible rfl
            try simp only [Act.put, List.setIfInBounds_toArray, List.set_cons_zero, List.set_cons_succ]
            refine wpAnyH_take (i := 3) (oi := { dst := some 103, op := Op.fieldAddr 138 (Operand.tmp 102) 2, type := 0, pos := "ref.go:81", after := #[{ on := 2, ground := Ground.data }], guard := none }) (v := ?_) rfl (by kernel_rfl) (by kernel_rfl) (by kernel_rfl) (fun _ _ _ h => h) (Or.inl ⟨by rfl, ?_⟩) hHeld ?_
            rotate_left
            · intro w hSw
              (try dsimp only at hSw)
              go_simp
              try with_reducible rfl
            try simp only [Act.put, List.setIfInBounds_toArray, List.set_cons_zero, List.set_cons_succ]
            refine wpAnyH_take (i := 5) (oi := { dst := some 105, op := Op.load 135 (Operand.tmp 9), type := 135, pos := "ref.go:81", after := #[], guard := none }) (v := ?_) rfl (by kernel_rfl) (by kernel_rfl) (by kernel_rfl) (fun _ _ _ h => h) (Or.inl ⟨by rfl, ?_⟩) hHeld ?_
            rotate_left
            · intro w hSw
              (try dsimp only at hSw)
              go_simp
              try with_reducible rfl
            try simp only [Act.put, List.setIfInBounds_toArray, List.set_cons_zero, List.set_cons_succ]
            refine wpAnyH_ready (rs := [4]) (by kernel_rfl) (by simp) ?_
            refine AllReadyH.cons (o := { dst := some 104, op := Op.load 136 (Operand.tmp 103), type := 136, pos := "ref.go:81", after := #[{ on := 3, ground := Ground.data }], guard := none }) rfl (fun K hK => ?_) AllReadyH.nil
            go_simp
            try go_simp
            refine hK.out _ _ (SK.out _ _ _ _ (by assumption)) (fun hHeld => ?_)
            clear hK K
            try simp only [Act.put, List.setIfInBounds_toArray, List.set_cons_zero, List.set_cons_succ]
            refine wpAnyH_ready (rs := [6]) (by kernel_rfl) (by simp) ?_
            refine AllReadyH.cons (o := { dst := some 106, op := Op.call { callee := Callee.value (Operand.func 97), args := #[Operand.tmp 104, Operand.tmp 105], argTypes := #[136, 135] }, type := 136, pos := "ref.go:81", after := #[{ on := 4, ground := Ground.data }, { on := 5, ground := Ground.data }], guard := none }) rfl (fun K hK => ?_) AllReadyH.nil
            go_simp
            go_at_call 97; (with_reducible refine (put_r (blks false 0 l) _ rfl HLE2.out A2 c2 HXD.out.rb.cu (span a, j) X J HX.out.symm HJ.out.symm _ HXD.out.rb.u.sl).mono ?_); rintro e w9 ⟨A', c', L', rfl, hc9, hp9, hh9, hfr9, hb9⟩; have hx9 := HXD.out.below hb9; have z9 := hx9.rb.r2; have f9 := hx9.rb.froz 2; have hn9 := hp9.len; have hs9 := hx9.setU hh9 hn9.symm hc9 (fun _ a0 ea0 => by have h1 := hfr9 a0 ea0; have h2 := BB.out; omega)
            try go_simp
            refine hK.out _ _ (SK.out _ _ _ _ (by assumption)) (fun hHeld => ?_)
            clear hK K
            try simp only [Act.put, List.setIfInBounds_toArray, List.set_cons_zero, List.set_cons_succ]
            refine wpAnyH_take (i := 7) (oi := { dst := some 107, op := Op.nilCheck (Operand.tmp 100), type := 0, pos := "ref.go:81", after := #[{ on := 0, ground := Ground.data }, { on := 0, ground := Ground.phase }, { on := 1, ground := Ground.phase }, { on := 2, ground := Ground.phase }, { on := 3, ground := Ground.phase }, { on := 4, ground := Ground.phase }, { on := 5, ground := Ground.phase }, { on := 6, ground := Ground.phase }], guard := none }) (v := ?_) rfl (by kernel_rfl) (by kernel_rfl) (by kernel_rfl) (fun _ _ _ h => h) (Or.inl ⟨by rfl, ?_⟩) hHeld ?_
            rotate_left
            · intro w hSw
              (try dsimp only at hSw)
              go_simp
              try with_reducible rfl
            try simp only [Act.put, List.setIfInBounds_toArray, List.set_cons_zero, List.set_cons_succ]
            refine wpAnyH_take (i := 8) (oi := { dst := some 108, op := Op.fieldAddr 138 (Operand.tmp 107) 2, type := 0, pos := "ref.go:81", after := #[{ on := 7, ground := Ground.data }, { on := 0, ground := Ground.phase }, { on := 1, ground := Ground.phase }, { on := 2, ground := Ground.phase }, { on := 3, ground := Ground.phase }, { on := 4, ground := Ground.phase }, { on := 5, ground := Ground.phase }, { on := 6, ground := Ground.phase }], guard := none }) (v := ?_) rfl (by kernel_rfl) (by kernel_rfl) (by kernel_rfl) (fun _ _ _ h => h) (Or.inl ⟨by rfl, ?_⟩) hHeld ?_
            rotate_left
            · intro w hSw
              (try dsimp only at hSw)
              go_simp
              try with_reducible rfl
            try simp only [Act.put, List.setIfInBounds_toArray, List.set_cons_zero, List.set_cons_succ]
            refine wpAnyH_ready (rs := [9]) (by kernel_rfl) (by simp) ?_
            refine AllReadyH.cons (o := { dst := none, op := Op.store 136 (Operand.tmp 108) (Operand.tmp 106), type := 0, pos := "ref.go:81", after := #[{ on := 8, ground := Ground.data }, { on := 6, ground := Ground.data }, { on := 6, ground := Ground.chain }, { on := 0, ground := Ground.phase }, { on := 1, ground := Ground.phase }, { on := 2, ground := Ground.phase }, { on := 3, ground := Ground.phase }, { on := 4, ground := Ground.phase }, { on := 5, ground := Ground.phase }, { on := 6, ground := Ground.phase }], guard := none }) rfl (fun K hK => ?_) AllReadyH.nil
            go_simp
            try go_simp
            refine hK.out _ _ (SK.out _ _ _ _ (by assumption)) (fun hHeld => ?_)
            clear hK K
            try simp only [Act.put, List.setIfInBounds_toArray, List.set_cons_zero, List.set_cons_succ]
            refine wpAnyH_done (by kernel_rfl) ?_ _
            have hL9 : L' = blks false 0 (takeT j kk a c) := PT.out _ hp9
            rw [hL9] at hs9
            have HX10 := Lib.hid hs9
            have v0 := hs9.bx.x0
            clear hp9 hn9 hL9 hh9 hfr9 hb9 hx9 hc9 hs9 z9 f9 yd
            go_wp2
            go_ret2
            exact ⟨X, 0, rfl, _, HTU.out, ⟨_, _, _, _, HX10.out.rb⟩, HX10.out.gr⟩
end Go.Proofs.YtflkoabgkgegjaaGreatDoor
