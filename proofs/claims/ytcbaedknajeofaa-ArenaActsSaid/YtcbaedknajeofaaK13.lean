/- The reference's Write. Condition of Write: the bytes are read, and lie elsewhere than the reference's. -/
import Derived.Test.YtcbaedknajeofaaProg
import Derived.Test.YtcbaedknajeofaaK12
import Derived.WalkKit
import Derived.WalkLawsBesides
import Derived.WalkSpells
import Derived.Deep.QuietTactic
import Derived.BigQuiet
import Derived.Deep.RegionHeld3
import Derived.Deep.RegionLaw
import Derived.Outline
namespace Go.Proofs.Ytcbaedknajeofaa
open Go.RowKit




theorem writeK_succ (f : Nat → Nat) (at_ k : Nat) (l : List Nat) (h : k < l.length) : (fun j => if j = at_ + k then l[k] else writeF f at_ (l.take k) j) = writeF f at_ (l.take (k + 1)) := by
  funext j
  unfold writeF
  have e1 : (l.take k).length = k := by rw [List.length_take]; omega
  have e2 : (l.take (k + 1)).length = k + 1 := by rw [List.length_take]; omega
  rw [e1, e2]
  by_cases h1 : j = at_ + k
  · rw [if_pos h1, if_pos (by omega), show j - at_ = k by omega]
    simp [List.getD, h]
  · by_cases h2 : at_ ≤ j ∧ j < at_ + k
    · rw [if_neg h1, if_pos h2, if_pos (by omega)]
      have h3 : j - at_ < k := by omega
      have h4 : j - at_ < k + 1 := by omega
      simp [List.getD, List.getElem?_take, h3, h4]
    · rw [if_neg h1, if_neg h2, if_neg (by omega)]
set_option maxRecDepth 100000 in
set_option maxHeartbeats 1600000 in
theorem rwrite_yes (W : World) (ra rb N : Nat) (f : Nat → Nat) (at_ : Nat) (l : List Nat) (n c : Nat) (B : Option Addr) (hn : l.length = n) (ha : at_ + n ≤ N) (h : RefAt W ra rb N f) (hB : SlR W B (u8s l)) (hne : l ≠ [] → ∀ a, B = some a → a.block ≠ rb) (hl : ∀ x ∈ l, x < 256) :
    Calls Try.prog 23 #[.pointer (some ⟨ra, 0, none⟩), .int .i64 (at_ : Int), .slice B n c] W fun e w' => e = .returned (.int .i64 0) ∧ RefAt w' ra rb N (writeF f at_ l) ∧ W.grownBy w' (some rb) := by
  have H := Lib.hid h
  have HB := Lib.hid hB
  have Hne := Lib.hid hne
  have Hl := Lib.hid hl
  have Hn := Lib.hid hn
  have hN := h.2.2.2.2.2
  clear h hB hne hl hn
  go_enter Try.func23, Try.ntmps23
  go_wp2_with (go_at_call 29; refine (in_yes _ ra rb N f at_ n ha H.out).mono ?_; rintro e w' ⟨rfl, rfl⟩)
  go_loopw [7] (fun i wr => ∃ (k : Nat), k ≤ n ∧ i = .int .i64 k ∧ RefAt wr ra rb N (writeF f at_ (l.take k)) ∧ w'.grownBy wr (some rb)) (fun i _ => n - (intOf i).toNat)
  case atStart => exact ⟨0, Nat.zero_le _, rfl, by rw [List.take_zero, writeF_nil]; exact H.out, World.grownBy.refl _ _⟩
  case round =>
    obtain ⟨k, hk, rfl, hm, hgr⟩ := hrel
    have Hgr := Lib.hid hgr
    by_cases hlt : k < n
    · have HM := Lib.hid hm
      have c1 := hm.bc
      have v := hm.2.2.1 (at_ + k) (by omega)
      have hf := hm.frozen (at_ + k)
      have hlt2 : k < l.length := by rw [Hn.out]; exact hlt
      obtain ⟨b, off, rfl, _, hx⟩ := ((HB.out.grown hgr (fun hn => Hne.out (by rintro rfl; simp at hlt2))).byte hlt2)
      have x0 := hx k hlt2
      have xl := Hl.out _ (List.getElem_mem hlt2)
      have E := Lib.hid (writeK_succ f at_ k l hlt2)
      obtain ⟨x, hxe⟩ : ∃ x, l[k] = x := ⟨_, rfl⟩
      rw [hxe] at x0 xl E
      have i1 : (at_ : Int) + (k : Int) < (N : Int) := by omega
      have i2 : (0 : Int) ≤ (at_ : Int) + (k : Int) := by omega
      have i3 : (N : Int) ≤ 1073741824 := by omega
      have s1 : IntKind.i64.wrap ((at_ : Int) + (k : Int)) = (at_ : Int) + (k : Int) := by rw [IntKind.wrap_i64]; omega
      have s2 : ((at_ : Int) + (k : Int)).toNat = at_ + k := by omega
      have j1 : (k : Int) < (n : Int) := by omega
      clear hgr hm hx hxe
      have M2 : Hid (RefAt (wr.setCell ⟨rb, at_ + k, none⟩ (.int .u8 (x : Int))).drew ra rb N (writeF f at_ (l.take (k + 1)))) := Lib.hid (by
        rw [← E.out]
        exact HM.out.set (at_ + k) x (by omega) xl)
      have G2 : Hid (w'.grownBy (wr.setCell ⟨rb, at_ + k, none⟩ (.int .u8 (x : Int))).drew (some rb)) := Lib.hid (gb_trans (gb_set Hgr.out _ _) (gb_drew _ _))
      go_wp2_with fail
      go_region_law (fail)
      all_goals
        clear c1 v hf x0 i1 i2 s1 s2
        go_wp2
        go_roundw
        case rel => exact ⟨k + 1, by omega, by go_num, M2.out, G2.out⟩
        case measure => simp [intOf]; omega
    · have hkn : l.take k = l := List.take_of_length_le (by have := Hn.out; omega)
      rw [hkn] at hm
      have Hm := Lib.hid hm
      clear hm hgr hkn
      go_wp2
      go_ret
      exact ⟨rfl, Hm.out, Hgr.out⟩
end Go.Proofs.Ytcbaedknajeofaa
