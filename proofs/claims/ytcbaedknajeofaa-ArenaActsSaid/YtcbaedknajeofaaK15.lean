/- The reference's Store. Condition: the words are read, and lie elsewhere than the reference's bytes. -/
import Derived.Test.YtcbaedknajeofaaProg
import Derived.Test.YtcbaedknajeofaaK13
import Derived.WalkKit
import Derived.WalkLawsBesides
import Derived.WalkSpells
import Derived.Deep.QuietTactic
import Derived.BigQuiet
import Derived.Deep.RegionHeld3
import Derived.Deep.RegionLaw
import Derived.Outline
namespace Go.Proofs.Ytcbaedknajeofaa
open Go.RowKit

theorem rstore_no (W : World) (ra rb N : Nat) (f : Nat → Nat) (at_ : Int) (n c : Nat) (A : Option Addr) (hn : n ≤ 1000) (ho : outR N at_ (n * 8 : Nat)) (h : RefAt W ra rb N f) : Calls Try.prog 20 #[.pointer (some ⟨ra, 0, none⟩), .int .i64 at_, .slice A n c] W fun e w' => e = .returned (.int .i64 2) ∧ w' = W := by
  have H := Lib.hid h
  have O := Lib.hid ho
  have s1 : IntKind.i64.wrap (8 * (n : Int)) = ((n * 8 : Nat) : Int) := by rw [IntKind.wrap_i64]; omega
  clear h ho
  go_enter Try.func20, Try.ntmps20
  go_wp2_with (go_at_call 29; refine (in_no _ ra rb N f at_ (n * 8 : Nat) O.out H.out).mono ?_; rintro e w' ⟨rfl, rfl⟩)
  go_ret
  exact ⟨rfl, rfl⟩
set_option maxRecDepth 100000 in
theorem rstore_odd (W : World) (ra rb N : Nat) (f : Nat → Nat) (at_ : Nat) (n c : Nat) (A : Option Addr) (ha : at_ + n * 8 ≤ N) (h8 : at_ % 8 ≠ 0) (h : RefAt W ra rb N f) : Calls Try.prog 20 #[.pointer (some ⟨ra, 0, none⟩), .int .i64 (at_ : Int), .slice A n c] W fun e w' => e = .returned (.int .i64 3) ∧ w' = W := by
  have H := Lib.hid h
  have hN := h.2.2.2.2.2
  have i5 : (at_ : Int) ≤ 1073741824 := by omega
  have i6 : (0 : Int) ≤ (at_ : Int) := by omega
  have s1 : IntKind.i64.wrap (8 * (n : Int)) = ((n * 8 : Nat) : Int) := by rw [IntKind.wrap_i64]; omega
  have s2 : Int.tmod (at_ : Int) 8 = ((at_ % 8 : Nat) : Int) := by rw [Int.tmod_eq_emod_of_nonneg (by omega)]; omega
  have i7 : 0 < ((at_ % 8 : Nat) : Int) := by omega
  have i8 : ((at_ % 8 : Nat) : Int) ≤ 7 := by omega
  clear h
  go_enter Try.func20, Try.ntmps20
  go_wp2_with (go_at_call 29; refine (in_yes _ ra rb N f at_ (n * 8) ha H.out).mono ?_; rintro e w' ⟨rfl, rfl⟩)
  go_ret
  exact ⟨rfl, rfl⟩

theorem byte_next (x q : Nat) : x / 256 ^ q / 256 = x / 256 ^ (q + 1) := by rw [Nat.div_div_eq_div_mul, Nat.pow_succ]
theorem store_word (f : Nat → Nat) (at_ i q : Nat) (l : List Nat) (hi : i < l.length) (hq : q < 8) : (fun j => if j = at_ + (8 * i + q) then l[i] / 256 ^ q % 256 else storeF f at_ l (8 * i + q) j) = storeF f at_ l (8 * i + (q + 1)) := by
  have e := storeF_succ f at_ (8 * i + q) l
  have e1 : (8 * i + q) / 8 = i := by omega
  have e2 : (8 * i + q) % 8 = q := by omega
  have e3 : l.getD i 0 = l[i] := by simp [List.getD, hi]
  rw [e1, e2, e3] at e
  exact e

set_option maxRecDepth 100000 in
set_option maxHeartbeats 1600000 in
theorem rstore_yes (W : World) (ra rb N : Nat) (f : Nat → Nat) (at_ : Nat) (l : List Nat) (n c : Nat) (A : Option Addr) (hn : l.length = n) (ha : at_ + n * 8 ≤ N) (h8 : at_ % 8 = 0) (h : RefAt W ra rb N f) (hA : SlR W A (u64s l)) (hne : l ≠ [] → ∀ a, A = some a → a.block ≠ rb) (hl : ∀ x ∈ l, x < 18446744073709551616) :
    Calls Try.prog 20 #[.pointer (some ⟨ra, 0, none⟩), .int .i64 (at_ : Int), .slice A n c] W fun e w' => e = .returned (.int .i64 0) ∧ RefAt w' ra rb N (storeF f at_ l (n * 8)) ∧ W.grownBy w' (some rb) := by
  have H := Lib.hid h
  have HA := Lib.hid hA
  have Hne := Lib.hid hne
  have Hl := Lib.hid hl
  have Hn := Lib.hid hn
  have hN := h.2.2.2.2.2
  have i5 : (at_ : Int) ≤ 1073741824 := by omega
  have i6 : (0 : Int) ≤ (at_ : Int) := by omega
  have s1 : IntKind.i64.wrap (8 * (n : Int)) = ((n * 8 : Nat) : Int) := by rw [IntKind.wrap_i64]; omega
  have s2 : Int.tmod (at_ : Int) 8 = 0 := by rw [Int.tmod_eq_emod_of_nonneg (by omega)]; omega
  clear h hA hne hl hn
  go_enter Try.func20, Try.ntmps20
  go_wp2_with (go_at_call 29; refine (in_yes _ ra rb N f at_ (n * 8) ha H.out).mono ?_; rintro e w' ⟨rfl, rfl⟩)
  clear s1 s2
  go_loopw [7] (fun i wr => ∃ (k : Nat), k ≤ n ∧ i = .int .i64 k ∧ RefAt wr ra rb N (storeF f at_ l (8 * k)) ∧ w'.grownBy wr (some rb)) (fun i _ => n - (intOf i).toNat)
  case atStart => exact ⟨0, Nat.zero_le _, rfl, by rw [Nat.mul_zero, storeF_zero]; exact H.out, World.grownBy.refl _ _⟩
  case round =>
    obtain ⟨k, hk, rfl, hm, hgr⟩ := hrel
    have Hgr := Lib.hid hgr
    have HM := Lib.hid hm
    by_cases hlt : k < n
    · have hlt2 : k < l.length := by rw [Hn.out]; exact hlt
      obtain ⟨b, off, rfl, _, hx⟩ := ((HA.out.grown hgr (fun hn => Hne.out (by rintro rfl; simp at hlt2))).word hlt2)
      have x0 := hx k hlt2
      have xl := Hl.out _ (List.getElem_mem hlt2)
      have E : ∀ q, Hid (q < 8 → (fun j => if j = at_ + (8 * k + q) then l[k] / 256 ^ q % 256 else storeF f at_ l (8 * k + q) j) = storeF f at_ l (8 * k + (q + 1))) := fun q => Lib.hid (fun hq => store_word f at_ k q l hlt2 hq)
      obtain ⟨x, hxe⟩ : ∃ x, l[k] = x := ⟨_, rfl⟩
      rw [hxe] at x0 xl
      have E' : Hid (∀ q, q < 8 → (fun j => if j = at_ + (8 * k + q) then x / 256 ^ q % 256 else storeF f at_ l (8 * k + q) j) = storeF f at_ l (8 * k + (q + 1))) := Lib.hid (fun q hq => by rw [← hxe]; exact (E q).out hq)
      have j1 : (k : Int) < (n : Int) := by omega
      clear hgr hm hx hxe E
      go_wp2_with fail
      rename World => wa
      clear x0
      go_loopw [8, 9] (fun y i wr => ∃ (q : Nat), q ≤ 8 ∧ i = .int .i64 q ∧ y = .int .u64 ((x / 256 ^ q : Nat) : Int) ∧ RefAt wr ra rb N (storeF f at_ l (8 * k + q)) ∧ w'.grownBy wr (some rb)) (fun _ i _ => 8 - (intOf i).toNat)
      case atStart => exact ⟨0, Nat.zero_le _, rfl, by simp, HM.out, Hgr.out⟩
      case round =>
        obtain ⟨q, hq, rfl, rfl, hm2, hgr2⟩ := hrel
        have HM2 := Lib.hid hm2
        have Hgr2 := Lib.hid hgr2
        by_cases hlq : q < 8
        · have c1 := hm2.bc
          have v := hm2.2.2.1 (at_ + (8 * k + q)) (by omega)
          have hf := hm2.frozen (at_ + (8 * k + q))
          have e1 := Lib.hid (E'.out q hlq)
          have e2 := Lib.hid (byte_next x q)
          have yl : x / 256 ^ q ≤ x := Nat.div_le_self _ _
          obtain ⟨y, hy⟩ : ∃ y, x / 256 ^ q = y := ⟨_, rfl⟩
          rw [hy] at e1 e2 yl ⊢
          have i1 : (at_ : Int) + 8 * (k : Int) + (q : Int) < (N : Int) := by omega
          have i2 : (0 : Int) ≤ (at_ : Int) + 8 * (k : Int) + (q : Int) := by omega
          have i3 : (N : Int) ≤ 1073741824 := by omega
          have s1 : IntKind.i64.wrap (8 * (k : Int)) = 8 * (k : Int) := by rw [IntKind.wrap_i64]; omega
          have s3 : IntKind.i64.wrap ((at_ : Int) + 8 * (k : Int)) = (at_ : Int) + 8 * (k : Int) := by rw [IntKind.wrap_i64]; omega
          have s4 : IntKind.i64.wrap ((at_ : Int) + 8 * (k : Int) + (q : Int)) = (at_ : Int) + 8 * (k : Int) + (q : Int) := by rw [IntKind.wrap_i64]; omega
          have s5 : ((at_ : Int) + 8 * (k : Int) + (q : Int)).toNat = at_ + (8 * k + q) := by omega
          have j2 : (q : Int) < 8 := by omega
          have M2 : Hid (RefAt (wr.setCell ⟨rb, at_ + (8 * k + q), none⟩ (.int .u8 ((y % 256 : Nat) : Int))) ra rb N (storeF f at_ l (8 * k + (q + 1)))) := Lib.hid (by
            rw [← e1.out]
            exact HM2.out.set (at_ + (8 * k + q)) (y % 256) (by omega) (Nat.mod_lt _ (by omega)))
          clear hgr2 hm2 hy E'
          go_wp2
          refine ⟨⟨q + 1, by omega, by go_num, ?_, M2.out, gb_set Hgr2.out _ _⟩, by simp [intOf]; omega⟩
          rw [← e2.out]
          push_cast
          rfl
        · have hkq : q = 8 := by omega
          subst hkq
          have j2 : ¬ ((8 : Nat) : Int) < 8 := by omega
          clear hgr2 hm2
          go_wp2
          exact ⟨⟨k + 1, by omega, by go_num, by rw [Nat.mul_add]; exact HM2.out, Hgr2.out⟩, by simp [intOf]; omega⟩
    · have hkn : 8 * k = n * 8 := by omega
      rw [hkn] at HM
      clear hm hgr hkn
      go_wp2
      go_ret
      exact ⟨rfl, HM.out, Hgr.out⟩
end Go.Proofs.Ytcbaedknajeofaa
