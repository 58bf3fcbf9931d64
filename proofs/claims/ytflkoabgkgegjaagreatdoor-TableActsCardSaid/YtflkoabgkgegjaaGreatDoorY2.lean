/- Contracts of a map's small functions: New, Len, Get, word. No condition. And what follows from it. -/
import Derived.Test.YtflkoabgkgegjaaGreatDoorProg
import Derived.Test.YtflkoabgkgegjaaGreatDoorY1
import Derived.WalkKit
import Derived.WalkLawsBesides
import Derived.WalkSpells
import Derived.Deep.QuietTactic
import Derived.BigQuiet
import Derived.Deep.RegionHeld3
import Derived.Deep.RegionLaw
import Derived.Outline
/- Contracts of a map's small functions: New, Len, Get, word. No condition. -/
namespace Go.Proofs.YtflkoabgkgegjaaGreatDoor
open Go.RowKit

theorem ret_bool {a b : Bool} (h : a = b) : Ending.returned (.bool a) = .returned (.bool b) := by rw [h]
theorem ret_int {k : IntKind} {a b : Int} (h : a = b) : Ending.returned (.int k a) = .returned (.int k b) := by rw [h]
def u64s (l : List Nat) : List Value := l.map fun (x : Nat) => .int .u64 (x : Int)
theorem u64s_length (l : List Nat) : (u64s l).length = l.length := by simp [u64s]

/-- a map lies at its block, its words at theirs -/
def MapAt (W : World) (gm gw n : Nat) (ws : List Nat) : Prop :=
  W.heap[gm]? = some (.cells #[.int .i64 (n : Int), .slice (some ⟨gw, 0, none⟩) ws.length ws.length] 118 (0, 0)) ∧ W.heap[gw]? = some (.cells (u64s ws).toArray 27 (0, 0)) ∧ WF n ws ∧ n ≤ 1048576 ∧ gm ≠ gw

theorem info_u64 : (Tryz.prog.info? 27).map (fun i => (i.zero, i.size, i.bytes)) = some (some (.int .u64 0), 1, 8) := by kernel_rfl
theorem made_zero (k : Nat) : madeCells #[Value.int .u64 0] (k * 1) = (u64s (List.replicate k 0)).toArray := by
  apply Array.ext
  · simp [madeCells, u64s]
  · intro j h1 h2
    have e : j % 1 = 0 := Nat.mod_one j
    simp [madeCells, u64s, e]
theorem info_parts {t : TypeId} {z : Value} {s b : Nat} (h : (Tryz.prog.info? t).map (fun i => (i.zero, i.size, i.bytes)) = some (some z, s, b)) : ∃ i, Tryz.prog.info? t = some i ∧ i.zero = some z ∧ i.size = s ∧ i.bytes = b := by
  cases hi : Tryz.prog.info? t with
  | none => rw [hi] at h; cases h
  | some i =>
    rw [hi] at h
    simp only [Option.map_some, Option.some.injEq, Prod.mk.injEq] at h
    exact ⟨i, rfl, h.1, h.2.1, h.2.2⟩
theorem run_new (n : Nat) (h : n ≤ 1048576) (w : World) : (Instr.makeSlice 116 (.int .i64 (((n : Int) + 64 - 1) / 64)) (.int .i64 (((n : Int) + 64 - 1) / 64))).run Tryz.prog w = .ok (.slice (some ⟨w.heap.size, 0, none⟩) ((n + 63) / 64) ((n + 63) / 64)) (w.alloc (.cells (u64s (List.replicate ((n + 63) / 64) 0)).toArray 27)) := by
  obtain ⟨i, hi, hz, hs, hb⟩ := info_parts info_u64
  have := run_make (P := Tryz.prog) w 116 27 i _ Tryz.underlying116 hi hz .i64 .i64 (((n : Int) + 64 - 1) / 64) (((n : Int) + 64 - 1) / 64) (by omega) (by omega) (by rw [hb]; omega) (by omega)
  rw [show (((n : Int) + 64 - 1) / 64).toNat = (n + 63) / 64 by omega, hs] at this
  rw [this]
  have e := made_zero ((n + 63) / 64)
  simp only [Value.cells] at e ⊢
  rw [e]

theorem new_no (n : Int) (w : World) (h : n < 0 ∨ 1048576 < n) : Calls Tryz.prog 36 #[.int .i64 n] w fun e w' => e = .returned (.pointer none) ∧ w' = w := by
  go_enter Tryz.func36, Tryz.ntmps36
  go_wp2
  all_goals go_ret
  all_goals exact ⟨rfl, rfl⟩
theorem new_yes (n : Nat) (w : World) (h : n ≤ 1048576) : Calls Tryz.prog 36 #[.int .i64 (n : Int)] w fun e w' => e = .returned (.pointer (some ⟨w.heap.size + 1, 0, none⟩)) ∧ MapAt w' (w.heap.size + 1) w.heap.size n (List.replicate ((n + 63) / 64) 0) ∧ Below w.heap.size w w' := by
  have h0 : (0 : Int) ≤ (n : Int) := by omega
  have h1 : (n : Int) ≤ 1048576 := by omega
  have h2 : ¬ (n : Int) < 0 := by omega
  have hm := run_new n h
  go_enter Tryz.func36, Tryz.ntmps36
  go_wp2
  go_ret
  refine ⟨rfl, ⟨?_, ?_, WF_new n, h, by omega⟩, ((Below.refl _ _).alloc (Nat.le_refl _) _).alloc (by simp) _⟩
  · have e1 := heap_alloc_new (w.alloc (.cells (u64s (List.replicate ((n + 63) / 64) 0)).toArray 27)) (.cells #[.int .i64 (n : Int), .slice (some ⟨w.heap.size, 0, none⟩) ((n + 63) / 64) ((n + 63) / 64)] 118)
    rw [World.size_alloc] at e1
    rw [List.length_replicate]
    exact e1
  · exact (Below.heap_alloc _ _ _ (by simp)).trans (heap_alloc_new w _)
theorem len_any (W : World) (gm gw n : Nat) (ws : List Nat) (h : MapAt W gm gw n ws) : Calls Tryz.prog 61 #[.pointer (some ⟨gm, 0, none⟩)] W fun e w' => e = .returned (.int .i64 (n : Int)) ∧ w' = W := by
  have c0 := cell_of_row W gm 0 _ _ _ h.1
  have c1 := cell_of_row W gm 1 _ _ _ h.1
  simp at c0 c1
  clear h
  go_enter Tryz.func61, Tryz.ntmps61
  go_wp2
  go_ret
  exact ⟨rfl, rfl⟩

theorem MapAt.word {W : World} {gm gw n : Nat} {ws : List Nat} (h : MapAt W gm gw n ws) (k : Nat) (hk : k < ws.length) : W.cell? ⟨gw, k, none⟩ = some (.int .u64 ((ws[k] : Nat) : Int)) := by
  rw [cell_of_row W gw k _ _ _ h.2.1]
  simp [u64s, hk]
theorem bit_val (x b : Nat) (hx : x < 18446744073709551616) : (bits .and .u64 ((x : Int) / 2 ^ b) 1 == 1) = x.testBit b := by
  have e : (x : Int) / 2 ^ b = ((x / 2 ^ b : Nat) : Int) := by push_cast; rfl
  have h3 : x / 2 ^ b ≤ x := Nat.div_le_self _ _
  rw [e, show (1 : Int) = ((1 : Nat) : Int) from rfl, u64_and_nat _ _ (by omega) (by omega), nat_mask1, Nat.testBit_eq_decide_div_mod_eq, Bool.eq_iff_iff, beq_iff_eq, decide_eq_true_eq]
  omega
theorem get_yes (W : World) (gm gw n : Nat) (ws : List Nat) (k : Nat) (hk : k < n) (h : MapAt W gm gw n ws) : Calls Tryz.prog 62 #[.pointer (some ⟨gm, 0, none⟩), .int .i64 (k : Int)] W fun e w' => e = .returned (.bool (bitW ws k)) ∧ w' = W := by
  have hl := in_len h.2.2.1 hk
  have c0 := cell_of_row W gm 0 _ _ _ h.1
  have c1 := cell_of_row W gm 1 _ _ _ h.1
  simp at c0 c1
  have v := h.word _ hl
  have hx := h.2.2.1.lt _ (List.getElem_mem hl)
  have hb : Hid (ws[k / 64].testBit (k % 64) = bitW ws k) := Lib.hid (by simp [bitW, List.getD, hl])
  have H := Lib.hid h
  have hv := Lib.hid (bit_val ws[k / 64] (k % 64) hx)
  have i1 : (k : Int) < (n : Int) := by omega
  have i2 : (0 : Int) ≤ (k : Int) := by omega
  have i3 : (k : Int) / 64 < (ws.length : Int) := by omega
  have i4 : (k : Int) < 1048576 := by have := h.2.2.2.1; omega
  have i5 : ((k : Int) / 64).toNat = k / 64 := by omega
  clear h
  go_enter Tryz.func62, Tryz.ntmps62
  go_wp2_with (go_at_call 61; refine (len_any _ gm gw n ws H.out).mono ?_; rintro e w' ⟨rfl, rfl⟩)
  go_ret
  exact ⟨ret_bool (by rw [hv.out]; exact hb.out), rfl⟩
def getB (n : Nat) (ws : List Nat) (i : Int) : Bool := decide (0 ≤ i ∧ i < n) && bitW ws i.toNat
theorem get_any (W : World) (gm gw n : Nat) (ws : List Nat) (i : Int) (h : MapAt W gm gw n ws) : Calls Tryz.prog 62 #[.pointer (some ⟨gm, 0, none⟩), .int .i64 i] W fun e w' => e = .returned (.bool (getB n ws i)) ∧ w' = W := by
  by_cases h0 : 0 ≤ i ∧ i < n
  · obtain ⟨k, rfl⟩ := Int.eq_ofNat_of_zero_le h0.1
    have e : getB n ws (k : Int) = bitW ws k := by simp only [getB, h0, and_self, decide_true, Bool.true_and, Int.toNat_natCast]
    rw [e]
    exact get_yes W gm gw n ws k (by omega) h
  · have e : getB n ws i = false := by simp only [getB, h0, decide_false, Bool.false_and]
    rw [e]
    have H := Lib.hid h
    clear h e
    by_cases h1 : 0 ≤ i
    · have h2 : ¬ i < (n : Int) := fun h => h0 ⟨h1, h⟩
      have h3 : (n : Int) ≤ i := by omega
      clear h0
      go_enter Tryz.func62, Tryz.ntmps62
      go_wp2_with (go_at_call 61; refine (len_any _ gm gw n ws H.out).mono ?_; rintro e w' ⟨rfl, rfl⟩)
      go_ret
      exact ⟨rfl, rfl⟩
    · have h2 : i < 0 := by omega
      clear h0
      go_enter Tryz.func62, Tryz.ntmps62
      go_wp2_with (go_at_call 61; refine (len_any _ gm gw n ws H.out).mono ?_; rintro e w' ⟨rfl, rfl⟩)
      go_ret
      exact ⟨rfl, rfl⟩
end Go.Proofs.YtflkoabgkgegjaaGreatDoor
/- The contract of Set. Condition: the bits' numbers are read, and lie elsewhere than the map's words. -/
namespace Go.Proofs.YtflkoabgkgegjaaGreatDoor
open Go.RowKit

/-- a slice's cells: they lie in a row, if there are any -/
def SlR (w : World) (A : Option Addr) (xs : List Value) : Prop :=
  xs ≠ [] → ∃ b off, A = some ⟨b, off, none⟩ ∧ b < w.heap.size ∧ ∀ j u, xs[j]? = some u → w.cell? ⟨b, off + j, none⟩ = some u
def i64s (l : List Int) : List Value := l.map fun x => .int .i64 x
theorem i64s_length (l : List Int) : (i64s l).length = l.length := by simp [i64s]
theorem SlR.nil (w : World) (A : Option Addr) : SlR w A [] := fun h => absurd rfl h
theorem SlR.below {w w' : World} {A : Option Addr} {xs : List Value} (h : SlR w A xs) (hb : Below w.heap.size w w') : SlR w' A xs := fun hne => by
  obtain ⟨b, off, e, hlt, hc⟩ := h hne
  exact ⟨b, off, e, Nat.lt_of_lt_of_le hlt hb.size, fun j u hu => (hb.cell (p := ⟨b, off + j, none⟩) hlt).trans (hc j u hu)⟩
theorem grown_cell {a b : World} {g : Nat} (h : a.grownBy b (some g)) {p o : Nat} (hp : p < a.heap.size) (hne : p ≠ g) : b.cell? ⟨p, o, none⟩ = a.cell? ⟨p, o, none⟩ := by
  have := h.block p hp (fun e => hne (by injection e))
  simp only [World.cell?, this]
theorem SlR.grown {w w' : World} {A : Option Addr} {xs : List Value} {g : Nat} (h : SlR w A xs) (hg : w.grownBy w' (some g)) (hne : ∀ a, A = some a → a.block ≠ g) : SlR w' A xs := fun hn => by
  obtain ⟨b, off, e, hlt, hc⟩ := h hn
  exact ⟨b, off, e, Nat.lt_of_lt_of_le hlt hg.size, fun j u hu => (grown_cell hg hlt (hne _ e)).trans (hc j u hu)⟩
theorem SlR.int {w : World} {A : Option Addr} {l : List Int} (h : SlR w A (i64s l)) {k : Nat} (hk : k < l.length) : ∃ b off, A = some ⟨b, off, none⟩ ∧ w.cell? ⟨b, off + k, none⟩ = some (.int .i64 l[k]) := by
  obtain ⟨b, off, e, hlt, hc⟩ := h (fun e => by have := i64s_length l; rw [e] at this; simp at this; omega)
  exact ⟨b, off, e, hc k _ (by simp [i64s, hk])⟩

theorem WF_flip {n : Nat} {ws : List Nat} (h : WF n ws) {i : Nat} (hi : i < n) : WF n (flipW ws i) := by
  have := WF_set1 (on := !bitW ws i) h (i : Int)
  have e : turns (!bitW ws i) n ws (i : Int) = true := by simp [turns, hi]
  simpa [set1, e] using this
theorem gb_drew (w : World) (g : Option Nat) : w.grownBy w.drew g := ⟨rfl, rfl, rfl, Nat.le_refl _, fun _ _ _ => rfl⟩
theorem gb_set {a b : World} {g : Nat} (h1 : a.grownBy b (some g)) (i : Nat) (v : Value) : a.grownBy (b.setCell ⟨g, i, none⟩ v) (some g) :=
  ⟨h1.os, h1.tape, h1.output, by simpa [World.setCell] using h1.size, fun k hk hne => (Below.heap_setCell b _ v k (fun e => hne (by rw [e]))).trans (h1.block k hk hne)⟩
theorem gb_trans {a b c : World} {g : Nat} (h1 : a.grownBy b (some g)) (h2 : b.grownBy c (some g)) : a.grownBy c (some g) :=
  ⟨h2.os.trans h1.os, h2.tape.trans h1.tape, h2.output.trans h1.output, Nat.le_trans h1.size h2.size, fun k hk hne => (h2.block k (Nat.lt_of_lt_of_le hk h1.size) hne).trans (h1.block k hk hne)⟩
theorem MapAt.lt {W : World} {gm gw n : Nat} {ws : List Nat} (h : MapAt W gm gw n ws) : gm < W.heap.size ∧ gw < W.heap.size := by
  constructor
  · rcases Nat.lt_or_ge gm W.heap.size with hlt | hge
    · exact hlt
    · have := h.1; rw [Array.getElem?_eq_none hge] at this; cases this
  · rcases Nat.lt_or_ge gw W.heap.size with hlt | hge
    · exact hlt
    · have := h.2.1; rw [Array.getElem?_eq_none hge] at this; cases this
theorem MapAt.below {W W' : World} {gm gw n : Nat} {ws : List Nat} (h : MapAt W gm gw n ws) (hb : Below W.heap.size W W') : MapAt W' gm gw n ws :=
  ⟨(hb.block gm h.lt.1).trans h.1, (hb.block gw h.lt.2).trans h.2.1, h.2.2⟩
/-- a bit of the map is turned -/
theorem MapAt.flip {W : World} {gm gw n : Nat} {ws : List Nat} (h : MapAt W gm gw n ws) {i : Nat} (hi : i < n) (hl : i / 64 < ws.length) :
    MapAt (W.drew.setCell ⟨gw, i / 64, none⟩ (.int .u64 ((ws[i / 64] ^^^ 2 ^ (i % 64) : Nat) : Int))) gm gw n (flipW ws i) := by
  have e : flipW ws i = ws.set (i / 64) (ws[i / 64] ^^^ 2 ^ (i % 64)) := by simp [flipW, List.getD, hl]
  refine ⟨?_, ?_, WF_flip h.2.2.1 hi, h.2.2.2.1, h.2.2.2.2⟩
  · rw [e, List.length_set]
    exact (Below.heap_setCell W.drew _ _ _ (by simpa using h.2.2.2.2)).trans h.1
  · have h2 : W.drew.heap[gw]? = some (.cells (u64s ws).toArray 27 (0, 0)) := h.2.1
    rw [e]
    have := heap_setCell_same W.drew gw (i / 64) _ _ (.int .u64 ((ws[i / 64] ^^^ 2 ^ (i % 64) : Nat) : Int)) h2
    rw [this]
    simp [u64s]
end Go.Proofs.YtflkoabgkgegjaaGreatDoor
/- The contract of Set. Condition: the bits' numbers are read, and lie elsewhere than the map's words. -/
namespace Go.Proofs.YtflkoabgkgegjaaGreatDoor
open Go.RowKit

theorem cntL_le (on : Bool) (n : Nat) : ∀ (l : List Int) (ws : List Nat), cntL on n ws l ≤ l.length
  | [], _ => Nat.le_refl _
  | i :: l, ws => by
    have := cntL_le on n l (set1 on n ws i)
    have h1 : (turns on n ws i).toNat ≤ 1 := by cases turns on n ws i <;> simp
    simp only [cntL, List.length_cons]
    omega

theorem flip_val (x b : Nat) (hb : b < 64) (hx : x < 18446744073709551616) : bits .xor .u64 (x : Int) (IntKind.u64.wrap (2 ^ b)) = ((x ^^^ 2 ^ b : Nat) : Int) := by
  have h1 : (2 : Nat) ^ b < 2 ^ 64 := Nat.pow_lt_pow_right (by omega) hb
  have h2 : (2 : Nat) ^ 64 = 18446744073709551616 := by decide
  have e0 : (2 : Int) ^ b = ((2 ^ b : Nat) : Int) := by push_cast; rfl
  rw [e0]
  generalize 2 ^ b = P at *
  have e : IntKind.u64.wrap (P : Int) = (P : Int) := by rw [IntKind.wrap_u64]; omega
  rw [e, u64_xor_nat _ _ hx (by omega)]

set_option maxRecDepth 100000 in
set_option maxHeartbeats 1600000 in
theorem set_any (on : Bool) (l : List Int) (A : Option Addr) (cap : Nat) (W : World) (gm gw n : Nat) (ws : List Nat) (h : MapAt W gm gw n ws) (hA : SlR W A (i64s l)) (hne : l ≠ [] → ∀ a, A = some a → a.block ≠ gw) (hl : l.length ≤ 9223372036854775807) :
    Calls Tryz.prog 37 #[.pointer (some ⟨gm, 0, none⟩), .bool on, .slice A l.length cap] W
      fun e w' => e = .returned (.int .i64 ((cntL on n ws l : Nat) : Int)) ∧ MapAt w' gm gw n (setL on n ws l) ∧ W.grownBy w' (some gw) := by
  have H0 := Lib.hid h
  have HA := Lib.hid hA
  have Hne := Lib.hid hne
  clear h hA hne
  go_enter Tryz.func37, Tryz.ntmps37
  go_wp2_with fail
  go_loopw [7, 12] (fun c i wr => ∃ (k : Nat), k ≤ l.length ∧ i = .int .i64 k ∧ c = .int .i64 ((cntL on n ws (l.take k) : Nat) : Int) ∧ MapAt wr gm gw n (setL on n ws (l.take k)) ∧ W.grownBy wr (some gw)) (fun _ i _ => l.length - (intOf i).toNat)
  case atStart => exact ⟨0, Nat.zero_le _, rfl, rfl, H0.out, World.grownBy.refl _ _⟩
  case round =>
    obtain ⟨k, hk, rfl, rfl, hm, hgr⟩ := hrel
    have Hgr := Lib.hid hgr
    by_cases hlt : k < l.length
    · obtain ⟨b, off, rfl, hx⟩ := ((HA.out.grown hgr (Hne.out (by rintro rfl; simp at hlt))).int hlt)
      have hcl := cntL_le on n (l.take k) ws
      rw [List.length_take] at hcl
      obtain ⟨vs, hvs⟩ : ∃ vs, setL on n ws (l.take k) = vs := ⟨_, rfl⟩
      obtain ⟨c, hc⟩ : ∃ c, cntL on n ws (l.take k) = c := ⟨_, rfl⟩
      have Hvs := Lib.hid hvs
      have Hc := Lib.hid hc
      rw [hvs] at hm
      have HM := Lib.hid hm
      have hcb : c ≤ k := by rw [← hc]; omega
      rw [hc]
      have hw := hm.2.2.1
      clear hm hgr hvs hc hcl
      by_cases h0 : 0 ≤ l[k]
      · by_cases h1 : l[k] < (n : Int)
        · obtain ⟨j, hj0⟩ := Int.eq_ofNat_of_zero_le h0
          have hj : j < n := by omega
          have hl64 := in_len hw hj
          rw [hj0] at hx h0 h1
          by_cases hb : bitW vs j = on
          · have ht : (bitW vs j == on) = true := by simp [hb]
            have Ht : Hid (turns on n vs l[k] = false) := Lib.hid (by rw [hj0]; simp [turns, hb])
            clear hb hw
            go_wp2_with (first | (go_at_call 61; refine (len_any _ gm gw n vs HM.out).mono ?_; rintro e w' ⟨rfl, rfl⟩) | (go_at_call 62; refine (get_yes _ gm gw n vs j hj HM.out).mono ?_; rintro e w' ⟨rfl, rfl⟩))
            go_roundw
            case rel =>
              refine ⟨k + 1, by omega, by go_num, ?_, ?_, Hgr.out⟩
              · rw [List.take_succ_eq_append_getElem hlt, cntL_snoc, Hvs.out, Ht.out, ← Hc.out]; rfl
              · rw [List.take_succ_eq_append_getElem hlt, setL_snoc, Hvs.out, set1, Ht.out]; exact HM.out
            case measure => simp [intOf]; omega
          · have ht : (bitW vs j == on) = false := by simp [hb]
            have Ht : Hid (turns on n vs l[k] = true) := Lib.hid (by rw [hj0]; simp only [turns, Bool.and_eq_true, decide_eq_true_eq, Int.toNat_natCast]; exact ⟨⟨h0, h1⟩, by simp [bne, ht]⟩)
            have Hj := Lib.hid hj0
            have hxw := hw.lt _ (List.getElem_mem hl64)
            clear hb hw hj0
            go_wp2_with (first | (go_at_call 61; refine (len_any _ gm gw n vs HM.out).mono ?_; rintro e w' ⟨rfl, rfl⟩) | (go_at_call 62; refine (get_yes _ gm gw n vs j hj HM.out).mono ?_; rintro e w' ⟨rfl, rfl⟩))
            have c1 := cell_of_row w' gm 1 _ _ _ HM.out.1
            simp at c1
            have v := HM.out.word _ hl64
            have hf : w'.frozen? ⟨gw, j / 64, none⟩ = false := frozen_of_row w' gw _ _ _ HM.out.2.1
            have i4 : (j : Int) < 1048576 := by have := HM.out.2.2.2.1; omega
            have i3 : (j : Int) / 64 < (vs.length : Int) := by omega
            have i5 : ((j : Int) / 64).toNat = j / 64 := by omega
            have s1 : IntKind.i64.wrap ((j : Int) / 64) = (j : Int) / 64 := by rw [IntKind.wrap_i64]; omega
            have s2 : Int.tmod (j : Int) 64 = ((j % 64 : Nat) : Int) := by rw [Int.tmod_eq_emod_of_nonneg (by omega)]; simp
            have s3 : IntKind.i64.wrap ((j % 64 : Nat) : Int) = ((j % 64 : Nat) : Int) := by rw [IntKind.wrap_i64]; omega
            have i6 : (0 : Int) ≤ (j : Int) / 64 := by omega
            have s5 : ((j : Int) % 64).toNat = j % 64 := by omega
            have fv := flip_val vs[j / 64] (j % 64) (by omega) hxw
            clear s3
            go_region_law (fail)
            have hm2 : MapAt (w'.setCell ⟨gw, j / 64, none⟩ (.int .u64 ((vs[j / 64] ^^^ 2 ^ (j % 64) : Nat) : Int))).drew gm gw n (flipW vs j) := HM.out.flip hj hl64
            have hg2 : W.grownBy (w'.setCell ⟨gw, j / 64, none⟩ (.int .u64 ((vs[j / 64] ^^^ 2 ^ (j % 64) : Nat) : Int))).drew (some gw) := gb_trans (gb_set Hgr.out _ _) (gb_drew _ _)
            have Hm2 := Lib.hid hm2
            have Hg2 := Lib.hid hg2
            clear hm2 hg2 c1 v hf i3 i4 i5 i6 s1 s2 s5 fv
            go_wp2
            go_roundw
            case rel =>
              refine ⟨k + 1, by omega, by go_num, ?_, ?_, Hg2.out⟩
              · rw [List.take_succ_eq_append_getElem hlt, cntL_snoc, Hvs.out, Ht.out, ← Hc.out]; rfl
              · rw [List.take_succ_eq_append_getElem hlt, setL_snoc, Hvs.out, set1, Ht.out, Hj.out]; exact Hm2.out
            case measure => simp [intOf]; omega
        · have h2 : (n : Int) ≤ l[k] := by omega
          have Ht : Hid (turns on n vs l[k] = false) := Lib.hid (by simp [turns]; omega)
          clear hw
          go_wp2_with (go_at_call 61; refine (len_any _ gm gw n vs HM.out).mono ?_; rintro e w' ⟨rfl, rfl⟩)
          go_roundw
          case rel =>
            refine ⟨k + 1, by omega, by go_num, ?_, ?_, Hgr.out⟩
            · rw [List.take_succ_eq_append_getElem hlt, cntL_snoc, Hvs.out, Ht.out, ← Hc.out]; rfl
            · rw [List.take_succ_eq_append_getElem hlt, setL_snoc, Hvs.out, set1, Ht.out]; exact HM.out
          case measure => simp [intOf]; omega
      · have h2 : l[k] < 0 := by omega
        have Ht : Hid (turns on n vs l[k] = false) := Lib.hid (by simp [turns]; omega)
        clear hw
        go_wp2_with (go_at_call 61; refine (len_any _ gm gw n vs HM.out).mono ?_; rintro e w' ⟨rfl, rfl⟩)
        go_roundw
        case rel =>
          refine ⟨k + 1, by omega, by go_num, ?_, ?_, Hgr.out⟩
          · rw [List.take_succ_eq_append_getElem hlt, cntL_snoc, Hvs.out, Ht.out, ← Hc.out]; rfl
          · rw [List.take_succ_eq_append_getElem hlt, setL_snoc, Hvs.out, set1, Ht.out]; exact HM.out
        case measure => simp [intOf]; omega
    · have hkn : k = l.length := by omega
      have hm' : MapAt wr gm gw n (setL on n ws l) := by rw [hkn, List.take_length] at hm; exact hm
      have Hm := Lib.hid hm'
      have Hc : Hid (cntL on n ws (l.take k) = cntL on n ws l) := Lib.hid (by rw [hkn, List.take_length])
      clear hm hm' hgr
      go_wp2
      go_ret
      exact ⟨ret_int (by rw [Hc.out]), Hm.out, Hgr.out⟩
end Go.Proofs.YtflkoabgkgegjaaGreatDoor
/- The contracts of OnesCount64 and of Count. No condition beyond the word's width. -/
namespace Go.Proofs.YtflkoabgkgegjaaGreatDoor
open Go.RowKit

theorem i64_and127 (v : Nat) (hv : v < 9223372036854775808) : bits .and .i64 (v : Int) 127 = ((v % 128 : Nat) : Int) := by
  have h1 : (BitVec.ofInt 64 (v : Int)).toNat = v := by rw [BitVec.ofInt_natCast, BitVec.toNat_ofNat]; exact Nat.mod_eq_of_lt (by omega)
  have h2 : v &&& 127 = v % 128 := Nat.and_two_pow_sub_one_eq_mod v 7
  show IntKind.i64.wrap ((BitVec.ofInt 64 (v : Int) &&& BitVec.ofInt 64 127).toNat : Int) = _
  rw [BitVec.toNat_and, h1, show (BitVec.ofInt 64 127).toNat = 127 by decide, h2, IntKind.wrap_i64]
  omega

theorem mod128 (v p : Nat) (h : v % 128 = p) : (v : Int) % 128 = (p : Int) := by omega

set_option maxHeartbeats 800000 in
theorem ones_any (x : Nat) (hx : x < 18446744073709551616) (w : World) : Calls Tryz.prog 63 #[.int .u64 (x : Int)] w fun e w' => e = .returned (.int .i64 ((pop x : Nat) : Int)) ∧ w' = w := by
  have hp := Lib.hid (pop_swar x hx)
  obtain ⟨p, hpv⟩ : ∃ p, p = (x / 2) &&& 6148914691236517205 := ⟨_, rfl⟩
  obtain ⟨q, hqv⟩ : ∃ q, q = x &&& 6148914691236517205 := ⟨_, rfl⟩
  have bp : p ≤ 6148914691236517205 := by rw [hpv]; exact Nat.and_le_right
  have bq : q ≤ 6148914691236517205 := by rw [hqv]; exact Nat.and_le_right
  have e1 : bits .and .u64 ((x : Int) / 2) 6148914691236517205 = (p : Int) := by rw [show (x : Int) / 2 = ((x / 2 : Nat) : Int) by omega, show (6148914691236517205 : Int) = ((6148914691236517205 : Nat) : Int) by rfl, u64_and_nat _ _ (by omega) (by omega), hpv]
  have e2 : bits .and .u64 (x : Int) 6148914691236517205 = (q : Int) := by rw [show (6148914691236517205 : Int) = ((6148914691236517205 : Nat) : Int) by rfl, u64_and_nat _ _ (by omega) (by omega), hqv]
  obtain ⟨a, ha⟩ : ∃ a, a = p + q := ⟨_, rfl⟩
  have w1 : IntKind.u64.wrap ((p : Int) + (q : Int)) = (a : Int) := by rw [IntKind.wrap_u64]; omega
  obtain ⟨r, hrv⟩ : ∃ r, r = (a / 4) &&& 3689348814741910323 := ⟨_, rfl⟩
  obtain ⟨s, hsv⟩ : ∃ s, s = a &&& 3689348814741910323 := ⟨_, rfl⟩
  have br : r ≤ 3689348814741910323 := by rw [hrv]; exact Nat.and_le_right
  have bs : s ≤ 3689348814741910323 := by rw [hsv]; exact Nat.and_le_right
  have e3 : bits .and .u64 ((a : Int) / 4) 3689348814741910323 = (r : Int) := by rw [show (a : Int) / 4 = ((a / 4 : Nat) : Int) by omega, show (3689348814741910323 : Int) = ((3689348814741910323 : Nat) : Int) by rfl, u64_and_nat _ _ (by omega) (by omega), hrv]
  have e4 : bits .and .u64 (a : Int) 3689348814741910323 = (s : Int) := by rw [show (3689348814741910323 : Int) = ((3689348814741910323 : Nat) : Int) by rfl, u64_and_nat _ _ (by omega) (by omega), hsv]
  obtain ⟨b, hb⟩ : ∃ b, b = r + s := ⟨_, rfl⟩
  have w2 : IntKind.u64.wrap ((r : Int) + (s : Int)) = (b : Int) := by rw [IntKind.wrap_u64]; omega
  obtain ⟨d, hd⟩ : ∃ d, d = b / 16 + b := ⟨_, rfl⟩
  have w3 : IntKind.u64.wrap ((b : Int) / 16 + (b : Int)) = (d : Int) := by rw [IntKind.wrap_u64]; omega
  obtain ⟨c, hcv⟩ : ∃ c, c = d &&& 1085102592571150095 := ⟨_, rfl⟩
  have bc : c ≤ 1085102592571150095 := by rw [hcv]; exact Nat.and_le_right
  have e5 : bits .and .u64 (d : Int) 1085102592571150095 = (c : Int) := by rw [show (1085102592571150095 : Int) = ((1085102592571150095 : Nat) : Int) by rfl, u64_and_nat _ _ (by omega) (by omega), hcv]
  obtain ⟨t, ht⟩ : ∃ t, t = c + c / 256 := ⟨_, rfl⟩
  have w4 : IntKind.u64.wrap ((c : Int) + (c : Int) / 256) = (t : Int) := by rw [IntKind.wrap_u64]; omega
  obtain ⟨u, hu⟩ : ∃ u, u = t + t / 65536 := ⟨_, rfl⟩
  have w5 : IntKind.u64.wrap ((t : Int) + (t : Int) / 65536) = (u : Int) := by rw [IntKind.wrap_u64]; omega
  obtain ⟨v, hv⟩ : ∃ v, v = u + u / 4294967296 := ⟨_, rfl⟩
  have w6 : IntKind.u64.wrap ((u : Int) + (u : Int) / 4294967296) = (v : Int) := by rw [IntKind.wrap_u64]; omega
  have bv : v < 9223372036854775808 := by omega
  have e6 := i64_and127 v bv
  have w7 : IntKind.i64.wrap (v : Int) = (v : Int) := by rw [IntKind.wrap_i64]; omega
  have w8 : wrap64 (v : Int) = (v : Int) := by unfold wrap64; omega
  have HR : Hid (v % 128 = pop x) := Lib.hid (by
    rw [← hp.out]
    show v % 128 = fold3 ((((((x / 2) &&& 6148914691236517205) + (x &&& 6148914691236517205)) / 4 &&& 3689348814741910323) + ((((x / 2) &&& 6148914691236517205) + (x &&& 6148914691236517205)) &&& 3689348814741910323)) / 16 + (((((x / 2) &&& 6148914691236517205) + (x &&& 6148914691236517205)) / 4 &&& 3689348814741910323) + ((((x / 2) &&& 6148914691236517205) + (x &&& 6148914691236517205)) &&& 3689348814741910323)) &&& 1085102592571150095)
    rw [← hpv, ← hqv, ← ha, ← hrv, ← hsv, ← hb, ← hd, ← hcv]
    show v % 128 = (c + c / 256 + (c + c / 256) / 65536 + (c + c / 256 + (c + c / 256) / 65536) / 4294967296) % 128
    rw [← ht, ← hu, ← hv])
  clear hp hpv hqv ha hrv hsv hb hd hcv ht hu hv bp bq br bs bc
  go_enter Tryz.func63, Tryz.ntmps63
  go_wp2
  go_ret
  exact ⟨ret_int (mod128 v _ HR.out), rfl⟩

theorem pop_le (x : Nat) : pop x ≤ 64 := by
  unfold pop
  exact Nat.le_trans List.countP_le_length (by simp)
theorem popL_le : ∀ ws : List Nat, popL ws ≤ 64 * ws.length
  | [] => by simp [popL]
  | x :: l => by
    have h1 := popL_le l
    have h2 := pop_le x
    simp only [popL, List.map_cons, List.sum_cons, List.length_cons] at h1 ⊢
    omega
theorem popL_snoc (l : List Nat) (x : Nat) : popL (l ++ [x]) = popL l + pop x := by simp [popL]

set_option maxRecDepth 100000 in
theorem count_any (W : World) (gm gw n : Nat) (ws : List Nat) (h : MapAt W gm gw n ws) : Calls Tryz.prog 38 #[.pointer (some ⟨gm, 0, none⟩)] W fun e w' => e = .returned (.int .i64 ((popL ws : Nat) : Int)) ∧ w' = W := by
  have H := Lib.hid h
  have c1 := cell_of_row W gm 1 _ _ _ h.1
  simp at c1
  have hlen := h.2.2.1.len
  have hn := h.2.2.2.1
  have hq : ((n : Int) + 64 - 1) / 64 = (ws.length : Int) := by omega
  have hlw : ws.length ≤ 16384 := by omega
  have hn' : (n : Int) ≤ 1048576 := by omega
  clear h hlen
  go_enter Tryz.func38, Tryz.ntmps38
  go_wp2_with (go_at_call 61; refine (len_any _ gm gw n ws H.out).mono ?_; rintro e w' ⟨rfl, rfl⟩)
  go_loopw [3, 10] (fun c i wr => ∃ (k : Nat), k ≤ ws.length ∧ i = .int .i64 k ∧ c = .int .i64 ((popL (ws.take k) : Nat) : Int) ∧ wr = w') (fun _ i _ => ws.length - (intOf i).toNat)
  case atStart => exact ⟨0, Nat.zero_le _, rfl, rfl, rfl⟩
  case round =>
    obtain ⟨k, hk, rfl, rfl, rfl⟩ := hrel
    have Hq := Lib.hid hq
    clear hq
    by_cases hlt : k < ws.length
    · have v := H.out.word k hlt
      have hxw := H.out.2.2.1.lt _ (List.getElem_mem hlt)
      have hb := popL_le (ws.take k)
      have hb1 := pop_le ws[k]
      have hb2 : (ws.take k).length ≤ 16384 := by rw [List.length_take]; omega
      have E : Hid (popL (ws.take (k + 1)) = popL (ws.take k) + pop ws[k]) := Lib.hid (by rw [List.take_succ_eq_append_getElem hlt, popL_snoc])
      generalize popL (ws.take k) = c at *
      have i1 : (k : Int) < (ws.length : Int) := by omega
      have hcb : c ≤ 1048576 := by omega
      have i2 : (k : Int) < ((n : Int) + 64 - 1) / 64 := by have := Hq.out; omega
      go_wp2_with (go_at_call 63; refine (ones_any ws[k] hxw _).mono ?_; rintro e w2 ⟨rfl, rfl⟩)
      go_roundw
      case rel => exact ⟨k + 1, by omega, by go_num, by rw [E.out]; push_cast; rfl, by first | rfl | trivial⟩
      case measure => simp [intOf]; omega
    · have E : Hid (popL (ws.take k) = popL ws) := Lib.hid (by rw [List.take_of_length_le (by omega)])
      have i2 : ((n : Int) + 64 - 1) / 64 ≤ (k : Int) := by have := Hq.out; omega
      go_wp2
      go_ret
      exact ⟨ret_int (by rw [E.out]), rfl⟩
end Go.Proofs.YtflkoabgkgegjaaGreatDoor
