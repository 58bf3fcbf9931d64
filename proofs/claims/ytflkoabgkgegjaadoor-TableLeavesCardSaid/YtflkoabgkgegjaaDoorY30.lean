/- The contracts of Load and Store. Condition of Store: the words are read, and lie elsewhere than the bytes. And what follows from it. -/
import Derived.Test.YtflkoabgkgegjaaDoorProg
import Derived.Test.YtflkoabgkgegjaaDoorY29
import Derived.WalkKit
import Derived.WalkLawsBesides
import Derived.WalkSpells
import Derived.Deep.QuietTactic
import Derived.BigQuiet
import Derived.Deep.RegionHeld3
import Derived.Deep.RegionLaw
import Derived.Outline
import Derived.Test.YtflkoabgkgegjaaDoorY28
/- The contracts of Load and Store. Condition of Store: the words are read, and lie elsewhere than the bytes. -/
namespace Go.Proofs.YtflkoabgkgegjaaDoor.Ar
open Go.RowKit




set_option maxRecDepth 100000 in
theorem load_yes (W : World) (ga gb N : Nat) (f : Nat → Nat) (at_ : Nat) (ha : at_ + 8 ≤ N) (h8 : at_ % 8 = 0) (h : ArAt W ga gb N f) :
    Calls Tryd.prog 20 #[.pointer (some ⟨ga, 0, none⟩), .int .i64 (at_ : Int)] W fun e w' => e = .returned (.tuple #[.int .u64 ((sumB f at_ 8 : Nat) : Int), .int .i64 0]) ∧ w' = W := by
  have H := Lib.hid h
  have hN := h.2.2.2.2.2
  clear h
  go_enter Tryd.func20, Tryd.ntmps20
  go_wp2_with (go_at_call 45; refine (words_yes _ ga gb N f at_ 1 (by omega) h8 H.out).mono ?_; rintro e w' ⟨rfl, rfl⟩)
  rw [partA_in (show at_ < N by omega)]
  go_loopw [8, 19] (fun x i wr => ∃ (k : Nat), k ≤ 8 ∧ i = .int .i64 k ∧ x = .int .u64 ((sumB f at_ k : Nat) : Int) ∧ wr = w') (fun _ i _ => 8 - (intOf i).toNat)
  case atStart => exact ⟨0, Nat.zero_le _, rfl, rfl, rfl⟩
  case round =>
    obtain ⟨k, hk, rfl, rfl, rfl⟩ := hrel
    by_cases hlt : k < 8
    · have v := H.out.2.2.1 (at_ + k) (by omega)
      have hb := H.out.2.2.2.1 (at_ + k)
      obtain ⟨c, hc⟩ : ∃ c, f (at_ + k) = c := ⟨_, rfl⟩
      obtain ⟨x, hx⟩ : ∃ x, sumB f at_ k = x := ⟨_, rfl⟩
      have hxl := sumB_lt f at_ H.out.2.2.2.1 k
      have hs : Hid (sumB f at_ (k + 1) = x + c * 256 ^ k) := Lib.hid (by simp only [sumB, hx, hc])
      rw [hx] at hxl ⊢
      rw [hc] at v hb
      have ob := or_byte x c k hlt hxl hb
      have ox : x < 18446744073709551616 := by
        have : x ≤ x + c * 256 ^ k := Nat.le_add_right _ _
        omega
      clear hx hc hxl
      have s5 : ((8 : Int) * (k : Int)).toNat = 8 * k := by omega
      have s6 : IntKind.i64.wrap (8 * (k : Int)) = 8 * (k : Int) := by rw [IntKind.wrap_i64]; omega
      go_wp2
      refine ⟨⟨k + 1, by omega, by go_num, ?_, by first | rfl | trivial⟩, by simp [intOf]; omega⟩
      rw [hs.out]
      push_cast
      rfl
    · have hkn : k = 8 := by omega
      subst hkn
      go_wp2
      go_ret2
      exact ⟨rfl, rfl⟩
theorem load_bad (W : World) (ga : Nat) (at_ : Int) (er : Int) (hw : Calls Tryd.prog 45 #[.pointer (some ⟨ga, 0, none⟩), .int .i64 at_, .int .i64 1] W fun e w' => e = .returned (.tuple #[.slice none 0 0, .int .i64 er]) ∧ w' = W) :
    Calls Tryd.prog 20 #[.pointer (some ⟨ga, 0, none⟩), .int .i64 at_] W fun e w' => e = .returned (.tuple #[.int .u64 0, .int .i64 er]) ∧ w' = W := by
  have H := Lib.hid hw
  clear hw
  go_enter Tryd.func20, Tryd.ntmps20
  go_wp2_with (go_at_call 45; refine H.out.mono ?_; rintro e w' ⟨rfl, rfl⟩)
  go_loopw [8, 19] (fun x i wr => x = .int .u64 0 ∧ i = .int .i64 0 ∧ wr = w') (fun _ _ _ => 0)
  case atStart => exact ⟨rfl, rfl, rfl⟩
  case round =>
    obtain ⟨rfl, rfl, rfl⟩ := hrel
    go_wp2
    go_ret2
    exact ⟨rfl, rfl⟩

/-- the bytes once k bytes of the words l lie at a place -/
def storeF (f : Nat → Nat) (at_ : Nat) (l : List Nat) (k : Nat) (j : Nat) : Nat := if at_ ≤ j ∧ j < at_ + k then l.getD ((j - at_) / 8) 0 / 256 ^ ((j - at_) % 8) % 256 else f j
theorem storeF_zero (f : Nat → Nat) (at_ : Nat) (l : List Nat) : storeF f at_ l 0 = f := by
  funext j
  unfold storeF
  rw [if_neg (by omega)]
theorem storeF_succ (f : Nat → Nat) (at_ k : Nat) (l : List Nat) : (fun j => if j = at_ + k then l.getD (k / 8) 0 / 256 ^ (k % 8) % 256 else storeF f at_ l k j) = storeF f at_ l (k + 1) := by
  funext j
  unfold storeF
  by_cases h : j = at_ + k
  · rw [if_pos h, if_pos (by omega), show j - at_ = k by omega]
  · by_cases h2 : at_ ≤ j ∧ j < at_ + k
    · rw [if_neg h, if_pos h2, if_pos (by omega)]
    · rw [if_neg h, if_neg h2, if_neg (by omega)]

theorem store_bad (W : World) (ga : Nat) (at_ : Int) (er : Int) (A : Option Addr) (n cap : Nat) (hw : Calls Tryd.prog 45 #[.pointer (some ⟨ga, 0, none⟩), .int .i64 at_, .int .i64 (n : Int)] W fun e w' => e = .returned (.tuple #[.slice none 0 0, .int .i64 er]) ∧ w' = W) :
    Calls Tryd.prog 33 #[.pointer (some ⟨ga, 0, none⟩), .int .i64 at_, .slice A n cap] W fun e w' => e = .returned (.int .i64 er) ∧ w' = W := by
  have H := Lib.hid hw
  clear hw
  go_enter Tryd.func33, Tryd.ntmps33
  go_wp2_with (go_at_call 45; refine H.out.mono ?_; rintro e w' ⟨rfl, rfl⟩)
  go_loopw [20] (fun i wr => i = .int .i64 0 ∧ wr = w') (fun _ _ => 0)
  case atStart => exact ⟨rfl, rfl⟩
  case round =>
    obtain ⟨rfl, rfl⟩ := hrel
    go_wp2
    go_ret
    exact ⟨rfl, rfl⟩

set_option maxRecDepth 100000 in
set_option maxHeartbeats 1600000 in
theorem store_yes (W : World) (ga gb N : Nat) (f : Nat → Nat) (at_ : Nat) (l : List Nat) (A : Option Addr) (cap : Nat) (ha : at_ + l.length * 8 ≤ N) (h8 : at_ % 8 = 0) (h : ArAt W ga gb N f) (hA : SlR W A (u64s l)) (hne : l ≠ [] → ∀ a, A = some a → a.block ≠ gb) (hl : ∀ x ∈ l, x < 18446744073709551616) :
    Calls Tryd.prog 33 #[.pointer (some ⟨ga, 0, none⟩), .int .i64 (at_ : Int), .slice A l.length cap] W fun e w' => e = .returned (.int .i64 0) ∧ ArAt w' ga gb N (storeF f at_ l (l.length * 8)) ∧ W.grownBy w' (some gb) := by
  have H := Lib.hid h
  have HA := Lib.hid hA
  have Hne := Lib.hid hne
  have Hl := Lib.hid hl
  have hN := h.2.2.2.2.2
  clear h hA hne hl
  have i5 : (l.length : Int) * 8 ≤ 1073741824 := by omega
  go_enter Tryd.func33, Tryd.ntmps33
  go_wp2_with (go_at_call 45; refine (words_yes _ ga gb N f at_ l.length ha h8 H.out).mono ?_; rintro e w' ⟨rfl, rfl⟩)
  go_loopw [20] (fun i wr => ∃ (k : Nat), k ≤ l.length * 8 ∧ i = .int .i64 k ∧ ArAt wr ga gb N (storeF f at_ l k) ∧ w'.grownBy wr (some gb)) (fun i _ => l.length * 8 - (intOf i).toNat)
  case atStart => exact ⟨0, Nat.zero_le _, rfl, by rw [storeF_zero]; exact H.out, World.grownBy.refl _ _⟩
  case round =>
    obtain ⟨k, hk, rfl, hm, hgr⟩ := hrel
    have Hgr := Lib.hid hgr
    by_cases hlt : k < l.length * 8
    · rw [partA_in (show at_ < N by omega)]
      have HM := Lib.hid hm
      have v := hm.2.2.1 (at_ + k) (by omega)
      have hf := hm.frozen (at_ + k)
      have hk8 : k / 8 < l.length := by omega
      have hnil : l ≠ [] := by rintro rfl; simp at hk8
      obtain ⟨b, off, rfl, _, hx⟩ := (Ar.SlR.word (Ar.SlR.grown HA.out hgr (fun hn => Hne.out hnil)) hk8)
      have x0 := hx (k / 8) hk8
      have xl := Hl.out _ (List.getElem_mem hk8)
      have xd : Hid (l.getD (k / 8) 0 = l[k / 8]) := Lib.hid (by simp [List.getD, hk8])
      obtain ⟨x, hxe⟩ : ∃ x, l[k / 8] = x := ⟨_, rfl⟩
      rw [hxe] at x0 xl xd
      have s1 : Int.tdiv (k : Int) 8 = ((k / 8 : Nat) : Int) := by rw [Int.tdiv_eq_ediv_of_nonneg (by omega)]; simp
      have s2 : Int.tmod (k : Int) 8 = ((k % 8 : Nat) : Int) := by rw [Int.tmod_eq_emod_of_nonneg (by omega)]; simp
      have s3 : IntKind.i64.wrap ((k / 8 : Nat) : Int) = ((k / 8 : Nat) : Int) := by rw [IntKind.wrap_i64]; omega
      have s4 : IntKind.i64.wrap ((k % 8 : Nat) : Int) = ((k % 8 : Nat) : Int) := by rw [IntKind.wrap_i64]; omega
      have s6 : IntKind.i64.wrap (8 * ((k % 8 : Nat) : Int)) = 8 * ((k % 8 : Nat) : Int) := by rw [IntKind.wrap_i64]; omega
      have s7 : ((8 : Int) * ((k % 8 : Nat) : Int)).toNat = 8 * (k % 8) := by omega
      have i6 : ((k / 8 : Nat) : Int) < (l.length : Int) := by omega
      have i7 : (0 : Int) ≤ ((k / 8 : Nat) : Int) := by omega
      have i8 : (0 : Int) ≤ ((k % 8 : Nat) : Int) := by omega
      clear hgr hm hx hxe
      go_wp2
      have e : (x : Int) / 2 ^ (8 * (k % 8)) % 256 = ((x / 256 ^ (k % 8) % 256 : Nat) : Int) := by rw [pow256]; push_cast; rfl
      rw [e]
      exact ⟨⟨k + 1, by omega, by go_num, by rw [← storeF_succ, xd.out]; exact HM.out.set _ _ (by omega) (Nat.mod_lt _ (by omega)), gb_set Hgr.out _ _⟩, by simp [intOf]; omega⟩
    · have hkn : k = l.length * 8 := by omega
      have hm' : ArAt wr ga gb N (storeF f at_ l (l.length * 8)) := by rw [hkn] at hm; exact hm
      have Hm := Lib.hid hm'
      clear hm hm' hgr hkn
      go_wp2
      go_ret
      exact ⟨rfl, Hm.out, Hgr.out⟩
end Go.Proofs.YtflkoabgkgegjaaDoor.Ar
/- The plain law of a table in the arena's bytes. No condition. -/
namespace Go.Proofs.YtflkoabgkgegjaaDoor
open Ar

/-- the word that begins there -/
def wdF (f : Nat → Nat) (p : Nat) : Nat := sumB f p 8
theorem wdF_lt {f : Nat → Nat} (h : ∀ i, f i < 256) (p : Nat) : wdF f p < 18446744073709551616 := by
  have := sumB_lt f p h 8
  have e : (256 : Nat) ^ 8 = 18446744073709551616 := by decide
  rw [e] at this
  exact this
theorem wd_store_out {f : Nat → Nat} {at_ k p : Nat} {l : List Nat} (h : p + 8 ≤ at_ ∨ at_ + k ≤ p) : wdF (storeF f at_ l k) p = wdF f p :=
  sumB_congr _ _ _ _ fun j hj => by unfold storeF; rw [if_neg (by omega)]
theorem wd_store_in {f : Nat → Nat} {at_ i : Nat} {l : List Nat} (hi : i < l.length) (hx : l.getD i 0 < 18446744073709551616) : wdF (storeF f at_ l (l.length * 8)) (at_ + 8 * i) = l.getD i 0 := by
  have h := sumB_word (storeF f at_ l (l.length * 8)) (at_ + 8 * i) (l.getD i 0) (fun j hj => by
    unfold storeF
    rw [if_pos (by omega)]
    have e1 : (at_ + 8 * i + j - at_) / 8 = i := by omega
    have e2 : (at_ + 8 * i + j - at_) % 8 = j := by omega
    rw [e1, e2]) 8 (Nat.le_refl 8)
  have e : (256 : Nat) ^ 8 = 18446744073709551616 := by decide
  rw [e, Nat.mod_eq_of_lt hx] at h
  exact h
theorem wd_fill_out {f : Nat → Nat} {at_ n p : Nat} (h : p + 8 ≤ at_ ∨ at_ + n ≤ p) : wdF (fillF f at_ n 0) p = wdF f p :=
  sumB_congr _ _ _ _ fun j hj => by unfold fillF; rw [if_neg (by omega)]
theorem wd_fill_in {f : Nat → Nat} {at_ n p : Nat} (h1 : at_ ≤ p) (h2 : p + 8 ≤ at_ + n) : wdF (fillF f at_ n 0) p = 0 := by
  have h := sumB_word (fillF f at_ n 0) p 0 (fun j hj => by
    unfold fillF
    rw [if_pos (by omega), Nat.zero_div, Nat.zero_mod]) 8 (Nat.le_refl 8)
  rw [Nat.zero_mod] at h
  exact h
/-- the leaves' ranges: in the arena, none over another one, nor over the root -/
structure DJ (at_ : Nat) (lf : Nat → Nat) : Prop where
  root : at_ + 128 ≤ 65536 ∧ at_ % 16 = 0
  leaf : ∀ j, j < 16 → lf j ≠ 0 → lf j + 256 ≤ 65536 ∧ lf j % 16 = 0 ∧ 64 ≤ lf j ∧ (at_ + 128 ≤ lf j ∨ lf j + 256 ≤ at_)
  two : ∀ i j, i < 16 → j < 16 → i ≠ j → lf i ≠ 0 → lf j ≠ 0 → lf i + 256 ≤ lf j ∨ lf j + 256 ≤ lf i
/-- the table's entries as the arena's bytes say them -/
structure TRel (f : Nat → Nat) (at_ : Nat) (lf A B : Nat → Nat) : Prop where
  lt : ∀ i, f i < 256
  root : ∀ j, j < 16 → wdF f (at_ + 8 * j) = lf j
  ent : ∀ j i, j < 16 → i < 16 → lf j ≠ 0 → wdF f (lf j + 16 * i) = A (16 * j + i) ∧ wdF f (lf j + 16 * i + 8) = B (16 * j + i)
  no : ∀ j i, j < 16 → i < 16 → lf j = 0 → A (16 * j + i) = 0 ∧ B (16 * j + i) = 0
theorem TRel.A_lt {f : Nat → Nat} {at_ : Nat} {lf A B : Nat → Nat} (h : TRel f at_ lf A B) (s : Nat) (hs : s < 256) : A s < 18446744073709551616 ∧ B s < 18446744073709551616 := by
  have e : s = 16 * (s / 16) + s % 16 := by omega
  by_cases q : lf (s / 16) = 0
  · have := h.no (s / 16) (s % 16) (by omega) (by omega) q
    rw [← e] at this
    rw [this.1, this.2]
    omega
  · have := h.ent (s / 16) (s % 16) (by omega) (by omega) q
    rw [← e] at this
    rw [← this.1, ← this.2]
    exact ⟨wdF_lt h.lt _, wdF_lt h.lt _⟩
theorem storeF_lt {f : Nat → Nat} (h : ∀ i, f i < 256) (at_ k : Nat) (l : List Nat) : ∀ i, storeF f at_ l k i < 256 := fun i => by
  unfold storeF
  split
  · exact Nat.mod_lt _ (by omega)
  · exact h i
theorem fillF_lt {f : Nat → Nat} (h : ∀ i, f i < 256) (at_ n : Nat) : ∀ i, fillF f at_ n 0 i < 256 := fun i => by
  unfold fillF
  split
  · omega
  · exact h i
/-- an entry is stored in its leaf -/
theorem TRel.put {f : Nat → Nat} {at_ : Nat} {lf A B : Nat → Nat} (h : TRel f at_ lf A B) (d : DJ at_ lf) (s a b : Nat) (hs : s < 256) (hl : lf (s / 16) ≠ 0) (ha : a < 18446744073709551616) (hb : b < 18446744073709551616) :
    TRel (storeF f (lf (s / 16) + s % 16 * 16) [a, b] 16) at_ lf (updF A s a) (updF B s b) := by
  have hd := d.leaf (s / 16) (by omega) hl
  refine ⟨storeF_lt h.lt _ _ _, fun j hj => ?_, fun j i hj hi hn => ?_, fun j i hj hi hz => ?_⟩
  · rw [wd_store_out (by omega)]
    exact h.root j hj
  · by_cases e : 16 * j + i = s
    · have e1 : s / 16 = j := by omega
      have e2 : s % 16 = i := by omega
      rw [e, updF_same, updF_same, e1, e2, Nat.mul_comm i 16]
      have q1 := wd_store_in (f := f) (at_ := lf j + 16 * i) (i := 0) (l := [a, b]) (by simp) ha
      have q2 := wd_store_in (f := f) (at_ := lf j + 16 * i) (i := 1) (l := [a, b]) (by simp) hb
      exact ⟨q1, q2⟩
    · rw [updF_other _ _ e, updF_other _ _ e]
      have hk := h.ent j i hj hi hn
      by_cases e1 : s / 16 = j
      · subst e1
        have e2 : s % 16 ≠ i := by omega
        rw [wd_store_out (by omega), wd_store_out (by omega)]
        exact hk
      · have := d.two (s / 16) j (by omega) hj e1 hl hn
        rw [wd_store_out (by omega), wd_store_out (by omega)]
        exact hk
  · have e : 16 * j + i ≠ s := fun e => hl (by rw [show s / 16 = j by omega]; exact hz)
    rw [updF_other _ _ e, updF_other _ _ e]
    exact h.no j i hj hi hz
/-- a leaf comes: its bytes are filled with zeros, the root's word is set -/
theorem TRel.leaf {f : Nat → Nat} {at_ : Nat} {lf A B : Nat → Nat} (h : TRel f at_ lf A B) (d : DJ at_ lf) (j x : Nat) (hj : j < 16) (hl : lf j = 0) (d' : DJ at_ (updF lf j x)) (hx : x ≠ 0) (hx2 : x < 18446744073709551616) :
    TRel (storeF (fillF f x 256 0) (at_ + 8 * j) [x] 8) at_ (updF lf j x) A B := by
  have hd := d'.leaf j hj (by rw [updF_same]; exact hx)
  rw [updF_same] at hd
  refine ⟨storeF_lt (fillF_lt h.lt _ _) _ _ _, fun i hi => ?_, fun i k hi hk hn => ?_, fun i k hi hk hz => ?_⟩
  · by_cases e : i = j
    · subst e
      rw [updF_same]
      exact wd_store_in (f := fillF f x 256 0) (at_ := at_ + 8 * i) (i := 0) (l := [x]) (by simp) hx2
    · rw [updF_other _ _ e, wd_store_out (by omega), wd_fill_out (by omega)]
      exact h.root i hi
  · by_cases e : i = j
    · subst e
      rw [updF_same, wd_store_out (by omega), wd_store_out (by omega), wd_fill_in (by omega) (by omega), wd_fill_in (by omega) (by omega)]
      have := h.no i k hi hk hl
      exact ⟨this.1.symm, this.2.symm⟩
    · have hn' := hn
      rw [updF_other _ _ e] at hn' ⊢
      have h2 := d'.two i j hi hj e hn (by rw [updF_same]; exact hx)
      rw [updF_same, updF_other _ _ e] at h2
      have h3 := d.leaf i hi hn'
      rw [wd_store_out (by omega), wd_store_out (by omega), wd_fill_out (by omega), wd_fill_out (by omega)]
      exact h.ent i k hi hk hn'
  · by_cases e : i = j
    · subst e
      rw [updF_same] at hz
      exact absurd hz hx
    · rw [updF_other _ _ e] at hz
      exact h.no i k hi hk hz
/-- a leaf that has no entry goes: the root's word is set -/
theorem TRel.gone {f : Nat → Nat} {at_ : Nat} {lf A B : Nat → Nat} (h : TRel f at_ lf A B) (d : DJ at_ lf) (j : Nat) (hj : j < 16) (hl : lf j ≠ 0) (hz : ∀ i, i < 16 → A (16 * j + i) = 0 ∧ B (16 * j + i) = 0) :
    TRel (storeF f (at_ + 8 * j) [0] 8) at_ (updF lf j 0) A B := by
  refine ⟨storeF_lt h.lt _ _ _, fun i hi => ?_, fun i k hi hk hn => ?_, fun i k hi hk hz2 => ?_⟩
  · by_cases e : i = j
    · subst e
      rw [updF_same]
      exact wd_store_in (f := f) (at_ := at_ + 8 * i) (i := 0) (l := [0]) (by decide) (by decide)
    · rw [updF_other _ _ e, wd_store_out (by omega)]
      exact h.root i hi
  · by_cases e : i = j
    · subst e
      rw [updF_same] at hn
      exact absurd rfl hn
    · rw [updF_other _ _ e] at hn ⊢
      have h3 := d.leaf i hi hn
      rw [wd_store_out (by omega), wd_store_out (by omega)]
      exact h.ent i k hi hk hn
  · by_cases e : i = j
    · subst e
      exact hz k hk
    · rw [updF_other _ _ e] at hz2
      exact h.no i k hi hk hz2
theorem DJ.less {at_ : Nat} {lf : Nat → Nat} (d : DJ at_ lf) (j : Nat) : DJ at_ (updF lf j 0) := by
  have ne : ∀ i, updF lf j 0 i ≠ 0 → i ≠ j ∧ updF lf j 0 i = lf i := fun i h => by
    by_cases e : i = j
    · subst e
      rw [updF_same] at h
      exact absurd rfl h
    · exact ⟨e, updF_other _ _ e⟩
  refine ⟨d.root, fun i hi h => ?_, fun i k hi hk hne h1 h2 => ?_⟩
  · obtain ⟨_, e⟩ := ne i h
    rw [e] at h ⊢
    exact d.leaf i hi h
  · obtain ⟨_, e1⟩ := ne i h1
    obtain ⟨_, e2⟩ := ne k h2
    rw [e1] at h1 ⊢
    rw [e2] at h2 ⊢
    exact d.two i k hi hk hne h1 h2
theorem page_one {P : List Pg} (h : RisesQ P) {x y : Pg} (hx : x ∈ P) (hy : y ∈ P) (e : x.q = y.q) : x = y := by
  obtain ⟨i, hi, rfl⟩ := List.getElem_of_mem hx
  obtain ⟨j, hj, rfl⟩ := List.getElem_of_mem hy
  rcases Nat.lt_trichotomy i j with q | q | q
  · have := h.at hi hj q
    omega
  · subst q; rfl
  · have := h.at hj hi q
    omega
/-- two places of the classes don't overlap -/
theorem places_apart {l : List Tl} {P : Nat → List Pg} (h : FLay l P) (hr : ∀ k ∈ cls, RisesQ (P k)) {j k a b : Nat} (hj : j ∈ cls) (hk : k ∈ cls) (ha : (a : Int) ∈ usedC (mC j) (szC j) (P j)) (hb : (b : Int) ∈ usedC (mC k) (szC k) (P k)) (hne : j ≠ k ∨ a ≠ b) : a + szC j ≤ b ∨ b + szC k ≤ a := by
  obtain ⟨p, hp, i, hi, _, e1⟩ := mem_usedC.1 ha
  obtain ⟨q, hq, m, hm, _, e2⟩ := mem_usedC.1 hb
  have f1 := place_end (cls_facts j hj).2.2.1 hi
  have f2 := place_end (cls_facts k hk).2.2.1 hm
  by_cases e : p.q = q.q
  · have ejk : j = k := by
      refine Decidable.byContradiction fun hjk => ?_
      exact h.apart j hj k hk hjk p hp q hq e
    subst ejk
    have epq := page_one (hr j hj) hp hq e
    subst epq
    have hab : a ≠ b := by
      rcases hne with h1 | h1
      · exact absurd rfl h1
      · exact h1
    rcases Nat.lt_trichotomy i m with g | g | g
    · have := Nat.mul_le_mul_right (szC j) (show i + 1 ≤ m from g)
      rw [Nat.add_mul, Nat.one_mul] at this
      omega
    · subst g
      omega
    · have := Nat.mul_le_mul_right (szC j) (show m + 1 ≤ i from g)
      rw [Nat.add_mul, Nat.one_mul] at this
      omega
  · omega
end Go.Proofs.YtflkoabgkgegjaaDoor
