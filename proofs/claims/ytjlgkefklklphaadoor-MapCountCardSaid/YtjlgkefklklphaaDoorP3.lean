/- The walk of MapCount: true. Condition: the table of TrailingZeros64 holds what its text says; the acts are read. -/
import Derived.Test.YtjlgkefklklphaaDoorP1
namespace Go.Proofs.YtjlgkefklklphaaDoor
open Go.RowKit

/-- so many acts are read: of each, whether on, and the bits' numbers -/
def ActsR (W : World) (B : Option Addr) (m : Nat) : Prop := ∀ k, k < m → ∃ b off, B = some ⟨b, off, none⟩ ∧ b < W.heap.size ∧
  ∃ (on : Bool) (L : List Int) (A : Option Addr) (cap : Nat), W.cell? ⟨b, off + k * 4, none⟩ = some (.bool on) ∧ W.cell? ⟨b, off + k * 4 + 1, none⟩ = some (.slice A L.length cap) ∧ SlR W A (i64s L) ∧ L.length ≤ 9223372036854775807

theorem popL_bound {n : Nat} {ws : List Nat} (h : WF n ws) (hn : n ≤ 1048576) : popL ws ≤ 1048576 := by
  have h1 := popL_le ws
  have h2 := h.len
  omega

set_option maxRecDepth 100000 in
set_option maxHeartbeats 1600000 in
theorem mcount_long (n m : Nat) (B : Option Addr) (cap : Nat) (w : World) (hT : TabZ w) (h1 : (60 : Int) < (m : Int)) :
    Calls Tryd.prog 3 #[.int .u16 (n : Int), .slice B m cap] w fun e w' => e = .returned (.bool true) ∧ Below w.heap.size w w' := by
  have HT := Lib.hid hT
  clear hT
  go_enter Tryd.func3, Tryd.ntmps3
  go_wp2_with fail
  refine (alive_any _ HT.out).mono ?_
  rintro e w1 ⟨rfl, hb1⟩
  have Hb1 := Lib.hid hb1
  clear hb1
  go_wp2_with fail
  go_ret
  exact ⟨rfl, Hb1.out⟩

set_option maxRecDepth 100000 in
set_option maxHeartbeats 3200000 in
theorem mcount_short (n m : Nat) (B : Option Addr) (cap : Nat) (w : World) (hn : n ≤ 65535) (hT : TabZ w) (hR : ActsR w B m) (hl : (m : Int) ≤ 60) :
    Calls Tryd.prog 3 #[.int .u16 (n : Int), .slice B m cap] w fun e w' => e = .returned (.bool true) ∧ Below w.heap.size w w' := by
  have HT := Lib.hid hT
  have HR := Lib.hid hR
  have hlt := hT.lt
  have n0 : (n : Int) ≤ 65535 := by omega
  have n9 : (0 : Int) ≤ (n : Int) := by omega
  clear hT hR
  go_enter Tryd.func3, Tryd.ntmps3
  go_wp2_with fail
  refine (alive_any _ HT.out).mono ?_
  rintro e w1 ⟨rfl, hb1⟩
  have hs1 := hb1.size
  have Hb1 := Lib.hid hb1
  clear hb1
  go_wp2_with fail
  refine (new_lit n (n : Int) rfl _ (by omega)).mono ?_
  rintro e w2 ⟨rfl, hm2, hb2⟩
  have hl2 := hm2.lt
  obtain ⟨gm, hgm⟩ : ∃ gm, gm = w1.heap.size + 1 := ⟨_, rfl⟩
  obtain ⟨gw, hgw⟩ : ∃ gw, gw = w1.heap.size := ⟨_, rfl⟩
  rw [← hgm, ← hgw] at hl2 hm2
  have hsw : w.heap.size ≤ gw := by omega
  have hst2 : StM w w2 gm gw n (List.replicate ((n + 63) / 64) 0) := ⟨Hb1.out.trans (hb2.mono hs1), hm2, HT.out.below hlt (Hb1.out.trans (hb2.mono hs1))⟩
  have St2 := Lib.hid hst2
  rw [← hgm]
  clear hst2 hm2 hb2 Hb1 hgm hgw
  go_wp2_with fail
  go_loopw [6, 7] (fun c i wr => ∃ (k : Nat) (ws : List Nat), k ≤ m ∧ i = .int .i64 k ∧ c = .int .i64 ((popL ws : Nat) : Int) ∧ StM w wr gm gw n ws) (fun _ i _ => m - (intOf i).toNat)
  case atStart => exact ⟨0, _, Nat.zero_le _, by go_num, by rw [popL_new]; rfl, St2.out⟩
  case round =>
    obtain ⟨k, ws, hk, rfl, rfl, hst⟩ := hrel
    have St := Lib.hid hst
    clear hst
    have hwf := St.out.2.1.2.2.1
    have hp0 := popL_bound hwf (by omega)
    obtain ⟨p, hp⟩ : ∃ p, popL ws = p := ⟨_, rfl⟩
    rw [hp] at hp0
    rw [hp]
    have Hp := Lib.hid hp
    have Hwf := Lib.hid hwf
    clear hp hwf
    by_cases hlk : k < m
    · obtain ⟨b, off, rfl, hbb, on, L, A, Lc, hon, hL, hLs, hLm⟩ := HR.out k hlk
      have hbg : b ≠ gw := by omega
      obtain ⟨ll, hll⟩ : ∃ ll, L.length = ll := ⟨_, rfl⟩
      rw [hll] at hL hLm
      have Hll := Lib.hid hll
      have c0 : wr.cell? ⟨b, off + k * 4, none⟩ = some (.bool on) := (St.out.1.cell (p := ⟨b, off + k * 4, none⟩) hbb).trans hon
      have c1 : wr.cell? ⟨b, off + k * 4 + 1, none⟩ = some (.slice A ll Lc) := (St.out.1.cell (p := ⟨b, off + k * 4 + 1, none⟩) hbb).trans hL
      have HLs := Lib.hid hLs
      have i1 : (k : Int) < (m : Int) := by omega
      have i2 : (0 : Int) ≤ (k : Int) := by omega
      clear hll hon hL hLs
      by_cases hL1 : (100 : Int) < (ll : Int)
      · go_wp2_with fail
        go_ret
        exact ⟨rfl, St.out.1⟩
      · obtain ⟨vs, hvs⟩ : ∃ vs, setL on n ws L = vs := ⟨_, rfl⟩
        obtain ⟨c, hc⟩ : ∃ c : Nat, cntL on n ws L = c := ⟨_, rfl⟩
        obtain ⟨q, hq⟩ : ∃ q, popL vs = q := ⟨_, rfl⟩
        have hcl : c ≤ 100 := by have := cntL_le on n L ws; rw [hc, Hll.out] at this; omega
        have hvw : WF n vs := by rw [← hvs]; exact WF_setL _ Hwf.out
        have hq0 := popL_bound hvw (by omega)
        rw [hq] at hq0
        have hon1 : on = true → (p : Int) + (c : Int) = (q : Int) := fun h => by
          have := popL_setL_on L Hwf.out
          rw [h] at hvs hc
          rw [hvs, hc, hq, Hp.out] at this; omega
        have hon2 : on = false → (p : Int) - (c : Int) = (q : Int) := fun h => by
          have := popL_setL_off L Hwf.out
          rw [h] at hvs hc
          rw [hvs, hc, hq, Hp.out] at this; omega
        have hag := setL_again (on := on) L Hwf.out
        rw [hvs] at hag
        have Hvs := Lib.hid hvs
        have Hc : Hid (((cntL on n ws L : Nat) : Int) = (c : Int)) := Lib.hid (by rw [hc])
        have Hq : Hid (((popL vs : Nat) : Int) = (q : Int)) := Lib.hid (by rw [hq])
        have Hag1 := Lib.hid hag.1
        have Hag2 : Hid (((cntL on n vs L : Nat) : Int) = 0) := Lib.hid (by rw [hag.2]; rfl)
        have Hon1 := Lib.hid hon1
        have Hon2 := Lib.hid hon2
        have HLd : Hid (SlR wr.drew A (i64s L)) := Lib.hid (HLs.out.below (St.out.1.drew))
        have HLn : Hid (L ≠ [] → ∀ a, A = some a → a.block ≠ gw) := Lib.hid (HLs.out.ne hsw)
        have Sd : Hid (StM w wr.drew gm gw n ws) := Lib.hid (St.out.step (Below.refl _ _).drew)
        have Smap : Hid (MapAt wr.drew gm gw n ws) := Lib.hid Sd.out.2.1
        have hbw : b < wr.heap.size := Nat.lt_of_lt_of_le hbb St.out.1.size
        clear hvs hc hq hag hon1 hon2 hvw
        go_wp2_with fail
        go_region_held3 (fun w' => w'.cell? ⟨b, off + k * 4, none⟩ = some (.bool on) ∧ w'.cell? ⟨b, off + k * 4 + 1, none⟩ = some (.slice A ll Lc)) (first | (with_reducible exact ⟨f1, f2⟩) | go_keep) (first | (go_at_call 8; (with_reducible refine (set_lit on L ll Hll.out _ _ _ _ gw n ws vs (c : Int) Hvs.out Hc.out Smap.out HLd.out HLn.out hLm).mono ?_); rintro e w5 ⟨rfl, hm5, hg5⟩; have f1 : w5.cell? ⟨b, off + k * 4, none⟩ = some (.bool on) := (grown_cell hg5 hbw hbg).trans c0; have f2 : w5.cell? ⟨b, off + k * 4 + 1, none⟩ = some (.slice A ll Lc) := (grown_cell hg5 hbw hbg).trans c1))
        have hb5 : Below w.heap.size w w5 := Sd.out.1.trans (grownBy_below hg5 hsw Sd.out.1.size)
        have St5 : Hid (StM w w5 gm gw n vs) := Lib.hid ⟨hb5, hm5, HT.out.below hlt hb5⟩
        clear hg5 hm5 hb5 c0 c1 St Sd Smap HLd
        have HLd5 : Hid (SlR w5.drew A (i64s L)) := Lib.hid (HLs.out.below (St5.out.1.drew))
        have Smap5 : Hid (MapAt w5.drew gm gw n vs) := Lib.hid (St5.out.step (Below.refl _ _).drew).2.1
        have hbw5 : b < w5.heap.size := Nat.lt_of_lt_of_le hbb St5.out.1.size
        have hgt5 : Below w.heap.size w w5.drew := St5.out.1.drew
        have Hgt5 := Lib.hid hgt5
        clear hgt5
        have p1 : (p : Int) ≤ 1048576 := by omega
        have q1 : (q : Int) ≤ 1048576 := by omega
        have cc1 : (c : Int) ≤ 100 := by omega
        cases on
        · have e1 := Hon2.out rfl
          go_wp2_with fail
          go_region_held3 (fun w' => w'.cell? ⟨b, off + k * 4, none⟩ = some (.bool false) ∧ w'.cell? ⟨b, off + k * 4 + 1, none⟩ = some (.slice A ll Lc)) (first | (with_reducible exact ⟨f1', f2'⟩) | go_keep) (first | (go_at_call 9; (with_reducible refine (count_lit _ _ gw n vs (q : Int) Hq.out Smap5.out).mono ?_); rintro e w6 ⟨rfl, rfl⟩) | (go_at_call 8; (with_reducible refine (set_lit false L ll Hll.out _ _ _ _ gw n vs vs 0 Hag1.out Hag2.out Smap5.out HLd5.out HLn.out hLm).mono ?_); rintro e w7 ⟨rfl, hm7, hg7⟩; have f1' : w7.cell? ⟨b, off + k * 4, none⟩ = some (.bool false) := (grown_cell hg7 hbw5 hbg).trans f1; have f2' : w7.cell? ⟨b, off + k * 4 + 1, none⟩ = some (.slice A ll Lc) := (grown_cell hg7 hbw5 hbg).trans f2))
          have hb7 : Below w.heap.size w w7 := Hgt5.out.trans (grownBy_below hg7 hsw Hgt5.out.size)
          have St7 : Hid (StM w w7 gm gw n vs) := Lib.hid ⟨hb7, hm7, HT.out.below hlt hb7⟩
          clear hg7 hm7 hb7 e1 f1 f2 f1' f2'
          go_wp2_with fail
          go_roundw
          case rel => exact ⟨k + 1, vs, by omega, by go_num, by rw [Hq.out], St7.out⟩
          case measure => simp [intOf]; try omega
        · have e1 := Hon1.out rfl
          go_wp2_with fail
          go_region_held3 (fun w' => w'.cell? ⟨b, off + k * 4, none⟩ = some (.bool true) ∧ w'.cell? ⟨b, off + k * 4 + 1, none⟩ = some (.slice A ll Lc)) (first | (with_reducible exact ⟨f1', f2'⟩) | go_keep) (first | (go_at_call 9; (with_reducible refine (count_lit _ _ gw n vs (q : Int) Hq.out Smap5.out).mono ?_); rintro e w6 ⟨rfl, rfl⟩) | (go_at_call 8; (with_reducible refine (set_lit true L ll Hll.out _ _ _ _ gw n vs vs 0 Hag1.out Hag2.out Smap5.out HLd5.out HLn.out hLm).mono ?_); rintro e w7 ⟨rfl, hm7, hg7⟩; have f1' : w7.cell? ⟨b, off + k * 4, none⟩ = some (.bool true) := (grown_cell hg7 hbw5 hbg).trans f1; have f2' : w7.cell? ⟨b, off + k * 4 + 1, none⟩ = some (.slice A ll Lc) := (grown_cell hg7 hbw5 hbg).trans f2))
          have hb7 : Below w.heap.size w w7 := Hgt5.out.trans (grownBy_below hg7 hsw Hgt5.out.size)
          have St7 : Hid (StM w w7 gm gw n vs) := Lib.hid ⟨hb7, hm7, HT.out.below hlt hb7⟩
          clear hg7 hm7 hb7 e1 f1 f2 f1' f2'
          go_wp2_with fail
          go_roundw
          case rel => exact ⟨k + 1, vs, by omega, by go_num, by rw [Hq.out], St7.out⟩
          case measure => simp [intOf]; try omega
    · have hkm : (m : Int) ≤ (k : Int) := by omega
      go_wp2_with fail
      refine (alive_any _ St.out.2.2).mono ?_
      rintro e w9 ⟨rfl, hb9⟩
      have St9 := Lib.hid (St.out.step hb9)
      clear hb9
      go_wp2_with fail
      go_ret
      exact ⟨rfl, St9.out.1⟩

theorem mcount_any (n m : Nat) (B : Option Addr) (cap : Nat) (w : World) (hn : n ≤ 65535) (hT : TabZ w) (hR : ActsR w B m) :
    Calls Tryd.prog 3 #[.int .u16 (n : Int), .slice B m cap] w fun e w' => e = .returned (.bool true) ∧ Below w.heap.size w w' := by
  by_cases h1 : (60 : Int) < (m : Int)
  · exact mcount_long n m B cap w hT h1
  · exact mcount_short n m B cap w hn hT hR (by omega)
end Go.Proofs.YtjlgkefklklphaaDoor
