/- The walk of ArenaOwn. Condition: the bytes are read. -/
import Derived.Test.YtcbaedknajeofaaProg
import Derived.Test.YtcbaedknajeofaaL3
import Derived.WalkKit
import Derived.WalkLawsBesides
import Derived.WalkSpells
import Derived.Deep.QuietTactic
import Derived.BigQuiet
import Derived.Deep.RegionHeld3
import Derived.Deep.RegionLaw
import Derived.Outline
namespace Go.Proofs.Ytcbaedknajeofaa
open Go.RowKit




theorem ArAt.belowB {W W' : World} {ga gb N B : Nat} {f : Nat → Nat} (h : ArAt W ga gb N f) (h1 : ga < B) (h2 : gb < B) (hb : Below B W W') : ArAt W' ga gb N f := by
  obtain ⟨cs, hc, hs⟩ := h.2.1
  exact ⟨(hb.block ga h1).trans h.1, ⟨cs, (hb.block gb h2).trans hc, hs⟩, fun i hi => (hb.cell (p := ⟨gb, i, none⟩) h2).trans (h.2.2.1 i hi), h.2.2.2⟩
theorem StA.belowB {s B : Nat} {W w w' : World} {f : Nat → Nat} (h : StA s W w f) (hB : s + 1 < B) (hb : Below B w w') : StA s W w' f :=
  ⟨h.1.trans (hb.mono (by omega)), h.2.belowB hB (by omega) hb⟩
/-- a row of the call's own, whatever it holds -/
def OwnB (w : World) (base : Nat) (A : Option Addr) (n : Nat) : Prop := 0 < n → ∃ g, A = some ⟨g, 0, none⟩ ∧ base ≤ g ∧ ∃ cur, w.heap[g]? = some (.cells cur 5 (0, 0)) ∧ n ≤ cur.size
theorem OwnB.of {w : World} {base : Nat} {A : Option Addr} {n cap : Nat} {xs : List Value} (h : w.ownsRow base 5 1 (.slice A n cap) n xs) : OwnB w base A n := fun hn => by
  rcases h.2 with ⟨_, h0⟩ | ⟨g, cap', cur, hv, hg, hh, hc, _, hs, _⟩
  · omega
  · injection hv with hA _ hcap
    exact ⟨g, hA, hg, cur, hh, by omega⟩
theorem OwnB.below {w w' : World} {base n : Nat} {A : Option Addr} (h : OwnB w base A n) (hb : Below w.heap.size w w') : OwnB w' base A n := fun hn => by
  obtain ⟨g, hA, hg, cur, hh, hc⟩ := h hn
  have hlt : g < w.heap.size := by
    rcases Nat.lt_or_ge g w.heap.size with hlt | hge
    · exact hlt
    · rw [Array.getElem?_eq_none hge] at hh; cases hh
  exact ⟨g, hA, hg, cur, (hb.block g hlt).trans hh, hc⟩
theorem OwnB.set {w : World} {base n g : Nat} (h : OwnB w base (some ⟨g, 0, none⟩) n) (k : Nat) (v : Value) : OwnB (w.setCell ⟨g, k, none⟩ v) base (some ⟨g, 0, none⟩) n := fun hn => by
  obtain ⟨g', hA, hg, cur, hh, hc⟩ := h hn
  cases hA
  exact ⟨g, rfl, hg, _, heap_setCell_same w g k cur _ _ hh, by simpa using hc⟩
theorem bytesAt_write (f : Nat → Nat) (a : Nat) (l : List Nat) : bytesAt (writeF f a l) a l.length = l := by
  apply List.ext_getElem
  · exact bytesAt_length _ _ _
  · intro j h1 h2
    rw [bytesAt_length] at h1
    rw [bytesAt_get _ _ _ _ h1]
    unfold writeF
    rw [if_pos (by omega), show a + j - a = j by omega]
    simp [List.getD, h2]

set_option maxRecDepth 100000 in
theorem own_long (spot n c cap : Nat) (A : Option Addr) (w : World) (hm : 1000 < n) : Calls Try.prog 7 #[.slice A n cap, .int .u16 (spot : Int), .int .u8 (c : Int)] w fun e w' => e = .returned (.bool true) ∧ Below w.heap.size w w' := by
  have i1 : (1000 : Int) < (n : Int) := by omega
  clear hm
  go_enter Try.func7, Try.ntmps7
  go_wp2_with fail
  refine (alive_any w).mono ?_
  rintro e w1 ⟨rfl, hb1⟩
  have Hb1 := Lib.hid hb1
  clear hb1
  go_wp2_with fail
  go_ret
  exact ⟨rfl, Hb1.out⟩

set_option maxRecDepth 100000 in
set_option maxHeartbeats 1600000 in
theorem own_short (spot n c cap : Nat) (l : List Nat) (A : Option Addr) (w : World) (hl : l.length = n) (hn : n ≤ 1000) (hs : spot < 65536) (hc : c < 256) (hA : SlR w A (u8s l)) (hx : ∀ x ∈ l, x < 256) : Calls Try.prog 7 #[.slice A n cap, .int .u16 (spot : Int), .int .u8 (c : Int)] w fun e w' => e = .returned (.bool true) ∧ Below w.heap.size w w' := by
  obtain ⟨i0, hi0, hz0, hz1, hz2⟩ := info_parts info_u8
  obtain ⟨a, ha⟩ : ∃ a, a = spot % 64000 := ⟨_, rfl⟩
  have a1 : a < 64000 := by omega
  have p1 : (spot : Int) % 64000 = (a : Int) := by omega
  have I1 : ∀ _ : Unit, (spot : Int) < 65536 := fun _ => by omega
  have HL := Lib.hid hl
  have HX := Lib.hid hx
  have HN := Lib.hid hn
  have HA := Lib.hid hA
  have HA1 := Lib.hid a1
  have hc' : (c : Int) < 256 := by omega
  have i6 : (n : Int) ≤ 1000 := by omega
  clear hl hx hn hA a1 ha hs hc
  go_enter Try.func7, Try.ntmps7
  go_wp2_with fail
  refine (alive_any w).mono ?_
  rintro e w1 ⟨rfl, hb1⟩
  have Hb1 := Lib.hid hb1
  clear hb1
  go_wp2_with fail
  refine (new_lit w1).mono ?_
  rintro e w2 ⟨rfl, hs2⟩
  have S2 := Lib.hid hs2
  have A2 := Lib.hid (HA.out.below (Hb1.out.trans (hs2.1.mono (by have := Hb1.out.size; omega))))
  clear hs2
  have i1 := I1 ()
  go_wp2_with (at_builtin; refine wpList_app _ rfl (.tmp 25) (.tmp 26) 32 rfl w2.heap.size 5 i0 _ 1 1 Try.underlying32 hi0 hz0 hz1 hz2 rfl (by omega) _ 0 0 [] rfl (World.ownsRow_lit _ #[] 0 (Nat.le_refl _) (by decide) rfl) _ _ _ (u8s l) rfl (by rw [u8s_length, HL.out]; omega) (A2.out.below ((Below.refl _ _).alloc (Nat.le_refl _) _)) (u8s_one _) (by have := HN.out; unfold maxLen; omega) (by have := HN.out; omega) (by simp) ?_; intro A3 k3 w3 hown3 hgr3 hb3; have Hown3 : Hid (w3.ownsRow w2.heap.size 5 1 (.slice A3 n k3) n (u8s l)) := Lib.hid (by simpa using hown3); have Hb3 : Hid (Below w2.heap.size w2 w3) := Lib.hid (((Below.refl _ _).alloc (Nat.le_refl _) _).trans hb3); clear hown3 hgr3 hb3)
  have hsz2 := S2.out.size
  have S3 : Hid (StA w1.heap.size w1 w3 fun _ => 0) := Lib.hid (S2.out.below Hb3.out)
  have O3 : Hid (OwnB w3 w2.heap.size A3 n) := Lib.hid (OwnB.of Hown3.out)
  have R3 := Lib.hid (ownsRow_sl Hown3.out)
  clear i1 hi0 hz0 hz1 hz2 Hown3 Hb3 A2 S2
  refine (write_lit w1.heap.size w1 _ _ a _ l n _ _ rfl HL.out (by have := HA1.out; have := HN.out; omega) S3.out R3.out HX.out).mono ?_
  rintro e w4 ⟨rfl, hs4, hg4⟩
  obtain ⟨f3, hf3⟩ : ∃ f3, f3 = writeF (fun _ => 0) a l := ⟨_, rfl⟩
  rw [← hf3] at hs4
  have F3 : Hid (bytesAt f3 a n = l) := Lib.hid (by rw [hf3, ← HL.out]; exact bytesAt_write _ a l)
  have S4 := Lib.hid hs4
  have O4 : Hid (OwnB w4 w2.heap.size A3 n) := Lib.hid (fun hn => by
    obtain ⟨g, hA, hg, cur, hh, hc⟩ := O3.out hn
    have hlt : g < w3.heap.size := by
      rcases Nat.lt_or_ge g w3.heap.size with hlt | hge
      · exact hlt
      · rw [Array.getElem?_eq_none hge] at hh; cases hh
    exact ⟨g, hA, hg, cur, (hg4.block g hlt (fun e => by injection e with e; omega)).trans hh, hc⟩)
  clear hs4 hg4 hf3 S3 O3 R3
  obtain ⟨B2, hB2⟩ : ∃ B2, B2 = w2.heap.size := ⟨_, rfl⟩
  rw [← hB2] at O4 hsz2
  clear hB2
  go_wp2_with fail
  go_loopw [10] (fun i wr => ∃ (k : Nat), k ≤ n ∧ i = .int .i64 k ∧ StA w1.heap.size w1 wr f3 ∧ OwnB wr B2 A3 n) (fun i _ => n - (intOf i).toNat)
  case atStart => exact ⟨0, Nat.zero_le _, rfl, S4.out, O4.out⟩
  case round =>
    obtain ⟨k, hk, rfl, hst, hO⟩ := hrel
    have S5 := Lib.hid hst
    have O5 := Lib.hid hO
    clear hst hO S4 O4
    by_cases hlt : k < n
    · obtain ⟨g, rfl, hg, cur, hh, hcs⟩ := O5.out (by omega)
      have v := cell_of_row wr g k _ _ _ hh
      rw [Array.getElem?_eq_getElem (show k < cur.size by omega)] at v
      have hf := frozen_of_row wr g k _ _ hh
      obtain ⟨u, hu⟩ : ∃ u, u = cur[k] := ⟨_, rfl⟩
      rw [← hu] at v
      have S6 : Hid (StA w1.heap.size w1 (wr.setCell ⟨g, k, none⟩ (.int .u8 (c : Int))) f3) := Lib.hid (S5.out.belowB (B := B2) hsz2 ((Below.refl _ _).setCell hg _))
      have O6 := Lib.hid (O5.out.set k (.int .u8 (c : Int)))
      have j1 : (k : Int) < (n : Int) := by omega
      clear hu hh hcs hg
      go_wp2
      exact ⟨⟨k + 1, by omega, by go_num, S6.out, O6.out⟩, by simp [intOf]; omega⟩
    · have j1 : ¬ (k : Int) < (n : Int) := by omega
      clear hlt hk O5
      go_wp2_with fail
      refine (read_lit w1.heap.size w1 _ f3 a n _ _ rfl rfl (by have := HA1.out; have := HN.out; omega) S5.out).mono ?_
      rintro e w5 ⟨A5, k5, rfl, hown5, hb5⟩
      rw [F3.out] at hown5
      have hsz5 := S5.out.size
      have S7 := Lib.hid (S5.out.below hb5)
      have O7 : Hid (OwnB w5 wr.heap.size A5 n) := Lib.hid (OwnB.of hown5)
      have R7 := Lib.hid (ownsRow_sl hown5)
      have A7 := Lib.hid (HA.out.below (Hb1.out.trans (S7.out.1.mono (by have := Hb1.out.size; omega))))
      clear hown5 hb5 S5
      obtain ⟨B3, hB3⟩ : ∃ B3, B3 = wr.heap.size := ⟨_, rfl⟩
      rw [← hB3] at O7 hsz5
      clear hB3 j1
      go_wp2_with fail
      refine (same_lit l l n n true _ _ _ _ _ HL.out HL.out (by simp [eqL]) R7.out A7.out (by have := HN.out; omega) (by have := HN.out; omega)).mono ?_
      rintro e w6 ⟨rfl, hb6⟩
      have S8 := Lib.hid (S7.out.below hb6)
      have O8 := Lib.hid (O7.out.below hb6)
      clear hb6 S7 O7 R7 A7
      go_wp2_with fail
      rename World => wa
      go_loopw [13] (fun i wr => ∃ (k : Nat), k ≤ n ∧ i = .int .i64 k ∧ StA w1.heap.size w1 wr f3 ∧ OwnB wr B3 A5 n) (fun i _ => n - (intOf i).toNat)
      case atStart => exact ⟨0, Nat.zero_le _, rfl, S8.out, O8.out⟩
      case round =>
        obtain ⟨q, hq, rfl, hst, hO⟩ := hrel
        have S9 := Lib.hid hst
        have O9 := Lib.hid hO
        clear hst hO S8 O8
        by_cases hlt : q < n
        · obtain ⟨g, rfl, hg, cur, hh, hcs⟩ := O9.out (by omega)
          have v := cell_of_row wr g q _ _ _ hh
          rw [Array.getElem?_eq_getElem (show q < cur.size by omega)] at v
          have hf := frozen_of_row wr g q _ _ hh
          obtain ⟨u, hu⟩ : ∃ u, u = cur[q] := ⟨_, rfl⟩
          rw [← hu] at v
          have S6 : Hid (StA w1.heap.size w1 (wr.setCell ⟨g, q, none⟩ (.int .u8 (c : Int))) f3) := Lib.hid (S9.out.belowB (B := B3) hsz5 ((Below.refl _ _).setCell hg _))
          have O6 := Lib.hid (O9.out.set q (.int .u8 (c : Int)))
          have j1 : (q : Int) < (n : Int) := by omega
          clear hu hh hcs hg
          go_wp2
          exact ⟨⟨q + 1, by omega, by go_num, S6.out, O6.out⟩, by simp [intOf]; omega⟩
        · have j1 : ¬ (q : Int) < (n : Int) := by omega
          clear hlt hq O9
          go_wp2_with fail
          refine (read_lit w1.heap.size w1 _ f3 a n _ _ rfl rfl (by have := HA1.out; have := HN.out; omega) S9.out).mono ?_
          rintro e w8 ⟨A8, k8, rfl, hown8, hb8⟩
          rw [F3.out] at hown8
          have Sx := Lib.hid (S9.out.below hb8)
          have Rx := Lib.hid (ownsRow_sl hown8)
          have Bx : Hid (Below w.heap.size w w8) := Lib.hid (Hb1.out.trans (Sx.out.1.mono (by have := Hb1.out.size; omega)))
          have Ax := Lib.hid (HA.out.below Bx.out)
          clear hown8 hb8 S9 Sx
          go_wp2_with fail
          refine (same_lit l l n n true _ _ _ _ _ HL.out HL.out (by simp [eqL]) Rx.out Ax.out (by have := HN.out; omega) (by have := HN.out; omega)).mono ?_
          rintro e w9 ⟨rfl, hb9⟩
          have By : Hid (Below w.heap.size w w9) := Lib.hid (Bx.out.trans (hb9.mono Bx.out.size))
          clear hb9
          go_wp2_with fail
          go_ret
          exact ⟨rfl, By.out⟩
theorem own_any (spot c cap : Nat) (l : List Nat) (A : Option Addr) (w : World) (hs : spot < 65536) (hc : c < 256) (_ : l.length ≤ 9223372036854775807) (hA : SlR w A (u8s l)) (hx : ∀ x ∈ l, x < 256) : Calls Try.prog 7 #[.slice A l.length cap, .int .u16 (spot : Int), .int .u8 (c : Int)] w fun e w' => e = .returned (.bool true) ∧ Below w.heap.size w w' := by
  by_cases h : l.length ≤ 1000
  · exact own_short spot l.length c cap l A w rfl h hs hc hA hx
  · exact own_long spot l.length c cap A w (by omega)
end Go.Proofs.Ytcbaedknajeofaa
