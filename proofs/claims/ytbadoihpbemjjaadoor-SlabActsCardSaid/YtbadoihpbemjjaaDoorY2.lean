/- Contracts of a map's small functions: New, Len, Get, word. No condition. And what follows from it. -/
import Derived.Test.YtbadoihpbemjjaaDoorProg
import Derived.Test.YtbadoihpbemjjaaDoorY1
import Derived.WalkKit
import Derived.WalkLawsBesides
import Derived.WalkSpells
import Derived.Deep.QuietTactic
import Derived.BigQuiet
import Derived.Deep.RegionHeld3
import Derived.Deep.RegionLaw
import Derived.Outline
/- Contracts of a map's small functions: New, Len, Get, word. No condition. -/
namespace Go.Proofs.YtbadoihpbemjjaaDoor
open Go.RowKit

theorem ret_bool {a b : Bool} (h : a = b) : Ending.returned (.bool a) = .returned (.bool b) := by rw [h]
theorem ret_int {k : IntKind} {a b : Int} (h : a = b) : Ending.returned (.int k a) = .returned (.int k b) := by rw [h]
def u64s (l : List Nat) : List Value := l.map fun (x : Nat) => .int .u64 (x : Int)
theorem u64s_length (l : List Nat) : (u64s l).length = l.length := by simp [u64s]

/-- a map lies at its block, its words at theirs -/
def MapAt (W : World) (gm gw n : Nat) (ws : List Nat) : Prop :=
  W.heap[gm]? = some (.cells #[.int .i64 (n : Int), .slice (some ⟨gw, 0, none⟩) ws.length ws.length] 98 (0, 0)) ∧ W.heap[gw]? = some (.cells (u64s ws).toArray 95 (0, 0)) ∧ WF n ws ∧ n ≤ 1048576 ∧ gm ≠ gw

theorem info_u64 : (Tryd.prog.info? 95).map (fun i => (i.zero, i.size, i.bytes)) = some (some (.int .u64 0), 1, 8) := by kernel_rfl
theorem made_zero (k : Nat) : madeCells #[Value.int .u64 0] (k * 1) = (u64s (List.replicate k 0)).toArray := by
  apply Array.ext
  · simp [madeCells, u64s]
  · intro j h1 h2
    have e : j % 1 = 0 := Nat.mod_one j
    simp [madeCells, u64s, e]
theorem info_parts {t : TypeId} {z : Value} {s b : Nat} (h : (Tryd.prog.info? t).map (fun i => (i.zero, i.size, i.bytes)) = some (some z, s, b)) : ∃ i, Tryd.prog.info? t = some i ∧ i.zero = some z ∧ i.size = s ∧ i.bytes = b := by
  cases hi : Tryd.prog.info? t with
  | none => rw [hi] at h; cases h
  | some i =>
    rw [hi] at h
    simp only [Option.map_some, Option.some.injEq, Prod.mk.injEq] at h
    exact ⟨i, rfl, h.1, h.2.1, h.2.2⟩
theorem run_new (n : Nat) (h : n ≤ 1048576) (w : World) : (Instr.makeSlice 96 (.int .i64 (((n : Int) + 64 - 1) / 64)) (.int .i64 (((n : Int) + 64 - 1) / 64))).run Tryd.prog w = .ok (.slice (some ⟨w.heap.size, 0, none⟩) ((n + 63) / 64) ((n + 63) / 64)) (w.alloc (.cells (u64s (List.replicate ((n + 63) / 64) 0)).toArray 95)) := by
  obtain ⟨i, hi, hz, hs, hb⟩ := info_parts info_u64
  have := run_make (P := Tryd.prog) w 96 95 i _ Tryd.underlying96 hi hz .i64 .i64 (((n : Int) + 64 - 1) / 64) (((n : Int) + 64 - 1) / 64) (by omega) (by omega) (by rw [hb]; omega) (by omega)
  rw [show (((n : Int) + 64 - 1) / 64).toNat = (n + 63) / 64 by omega, hs] at this
  rw [this]
  have e := made_zero ((n + 63) / 64)
  simp only [Value.cells] at e ⊢
  rw [e]

theorem new_no (n : Int) (w : World) (h : n < 0 ∨ 1048576 < n) : Calls Tryd.prog 32 #[.int .i64 n] w fun e w' => e = .returned (.pointer none) ∧ w' = w := by
  go_enter Tryd.func32, Tryd.ntmps32
  go_wp2
  all_goals go_ret
  all_goals exact ⟨rfl, rfl⟩
theorem new_yes (n : Nat) (w : World) (h : n ≤ 1048576) : Calls Tryd.prog 32 #[.int .i64 (n : Int)] w fun e w' => e = .returned (.pointer (some ⟨w.heap.size + 1, 0, none⟩)) ∧ MapAt w' (w.heap.size + 1) w.heap.size n (List.replicate ((n + 63) / 64) 0) ∧ Below w.heap.size w w' := by
  have h0 : (0 : Int) ≤ (n : Int) := by omega
  have h1 : (n : Int) ≤ 1048576 := by omega
  have h2 : ¬ (n : Int) < 0 := by omega
  have hm := run_new n h
  go_enter Tryd.func32, Tryd.ntmps32
  go_wp2
  go_ret
  refine ⟨rfl, ⟨?_, ?_, WF_new n, h, by omega⟩, ((Below.refl _ _).alloc (Nat.le_refl _) _).alloc (by simp) _⟩
  · have e1 := heap_alloc_new (w.alloc (.cells (u64s (List.replicate ((n + 63) / 64) 0)).toArray 95)) (.cells #[.int .i64 (n : Int), .slice (some ⟨w.heap.size, 0, none⟩) ((n + 63) / 64) ((n + 63) / 64)] 98)
    rw [World.size_alloc] at e1
    rw [List.length_replicate]
    exact e1
  · exact (Below.heap_alloc _ _ _ (by simp)).trans (heap_alloc_new w _)
theorem len_any (W : World) (gm gw n : Nat) (ws : List Nat) (h : MapAt W gm gw n ws) : Calls Tryd.prog 55 #[.pointer (some ⟨gm, 0, none⟩)] W fun e w' => e = .returned (.int .i64 (n : Int)) ∧ w' = W := by
  have c0 := cell_of_row W gm 0 _ _ _ h.1
  have c1 := cell_of_row W gm 1 _ _ _ h.1
  simp at c0 c1
  clear h
  go_enter Tryd.func55, Tryd.ntmps55
  go_wp2
  go_ret
  exact ⟨rfl, rfl⟩

theorem MapAt.word {W : World} {gm gw n : Nat} {ws : List Nat} (h : MapAt W gm gw n ws) (k : Nat) (hk : k < ws.length) : W.cell? ⟨gw, k, none⟩ = some (.int .u64 ((ws[k] : Nat) : Int)) := by
  rw [cell_of_row W gw k _ _ _ h.2.1]
  simp [u64s, hk]
theorem bit_val (x b : Nat) (hx : x < 18446744073709551616) : (bits .and .u64 ((x : Int) / 2 ^ b) 1 == 1) = x.testBit b := by
  have e : (x : Int) / 2 ^ b = ((x / 2 ^ b : Nat) : Int) := by push_cast; rfl
  have h3 : x / 2 ^ b ≤ x := Nat.div_le_self _ _
  rw [e, show (1 : Int) = ((1 : Nat) : Int) from rfl, u64_and_nat _ _ (by omega) (by omega), nat_mask1, Nat.testBit_eq_decide_div_mod_eq, Bool.eq_iff_iff, beq_iff_eq, decide_eq_true_eq]
  omega
theorem get_yes (W : World) (gm gw n : Nat) (ws : List Nat) (k : Nat) (hk : k < n) (h : MapAt W gm gw n ws) : Calls Tryd.prog 56 #[.pointer (some ⟨gm, 0, none⟩), .int .i64 (k : Int)] W fun e w' => e = .returned (.bool (bitW ws k)) ∧ w' = W := by
  have hl := in_len h.2.2.1 hk
  have c0 := cell_of_row W gm 0 _ _ _ h.1
  have c1 := cell_of_row W gm 1 _ _ _ h.1
  simp at c0 c1
  have v := h.word _ hl
  have hx := h.2.2.1.lt _ (List.getElem_mem hl)
  have hb : Hid (ws[k / 64].testBit (k % 64) = bitW ws k) := Lib.hid (by simp [bitW, List.getD, hl])
  have H := Lib.hid h
  have hv := Lib.hid (bit_val ws[k / 64] (k % 64) hx)
  have i1 : (k : Int) < (n : Int) := by omega
  have i2 : (0 : Int) ≤ (k : Int) := by omega
  have i3 : (k : Int) / 64 < (ws.length : Int) := by omega
  have i4 : (k : Int) < 1048576 := by have := h.2.2.2.1; omega
  have i5 : ((k : Int) / 64).toNat = k / 64 := by omega
  clear h
  go_enter Tryd.func56, Tryd.ntmps56
  go_wp2_with (go_at_call 55; refine (len_any _ gm gw n ws H.out).mono ?_; rintro e w' ⟨rfl, rfl⟩)
  go_ret
  exact ⟨ret_bool (by rw [hv.out]; exact hb.out), rfl⟩
def getB (n : Nat) (ws : List Nat) (i : Int) : Bool := decide (0 ≤ i ∧ i < n) && bitW ws i.toNat
theorem get_any (W : World) (gm gw n : Nat) (ws : List Nat) (i : Int) (h : MapAt W gm gw n ws) : Calls Tryd.prog 56 #[.pointer (some ⟨gm, 0, none⟩), .int .i64 i] W fun e w' => e = .returned (.bool (getB n ws i)) ∧ w' = W := by
  by_cases h0 : 0 ≤ i ∧ i < n
  · obtain ⟨k, rfl⟩ := Int.eq_ofNat_of_zero_le h0.1
    have e : getB n ws (k : Int) = bitW ws k := by simp only [getB, h0, and_self, decide_true, Bool.true_and, Int.toNat_natCast]
    rw [e]
    exact get_yes W gm gw n ws k (by omega) h
  · have e : getB n ws i = false := by simp only [getB, h0, decide_false, Bool.false_and]
    rw [e]
    have H := Lib.hid h
    clear h e
    by_cases h1 : 0 ≤ i
    · have h2 : ¬ i < (n : Int) := fun h => h0 ⟨h1, h⟩
      have h3 : (n : Int) ≤ i := by omega
      clear h0
      go_enter Tryd.func56, Tryd.ntmps56
      go_wp2_with (go_at_call 55; refine (len_any _ gm gw n ws H.out).mono ?_; rintro e w' ⟨rfl, rfl⟩)
      go_ret
      exact ⟨rfl, rfl⟩
    · have h2 : i < 0 := by omega
      clear h0
      go_enter Tryd.func56, Tryd.ntmps56
      go_wp2_with (go_at_call 55; refine (len_any _ gm gw n ws H.out).mono ?_; rintro e w' ⟨rfl, rfl⟩)
      go_ret
      exact ⟨rfl, rfl⟩
end Go.Proofs.YtbadoihpbemjjaaDoor
/- The contract of Set. Condition: the bits' numbers are read, and lie elsewhere than the map's words. -/
namespace Go.Proofs.YtbadoihpbemjjaaDoor
open Go.RowKit

/-- a slice's cells: they lie in a row, if there are any -/
def SlR (w : World) (A : Option Addr) (xs : List Value) : Prop :=
  xs ≠ [] → ∃ b off, A = some ⟨b, off, none⟩ ∧ b < w.heap.size ∧ ∀ j u, xs[j]? = some u → w.cell? ⟨b, off + j, none⟩ = some u
def i64s (l : List Int) : List Value := l.map fun x => .int .i64 x
theorem i64s_length (l : List Int) : (i64s l).length = l.length := by simp [i64s]
theorem SlR.nil (w : World) (A : Option Addr) : SlR w A [] := fun h => absurd rfl h
theorem SlR.below {w w' : World} {A : Option Addr} {xs : List Value} (h : SlR w A xs) (hb : Below w.heap.size w w') : SlR w' A xs := fun hne => by
  obtain ⟨b, off, e, hlt, hc⟩ := h hne
  exact ⟨b, off, e, Nat.lt_of_lt_of_le hlt hb.size, fun j u hu => (hb.cell (p := ⟨b, off + j, none⟩) hlt).trans (hc j u hu)⟩
theorem grown_cell {a b : World} {g : Nat} (h : a.grownBy b (some g)) {p o : Nat} (hp : p < a.heap.size) (hne : p ≠ g) : b.cell? ⟨p, o, none⟩ = a.cell? ⟨p, o, none⟩ := by
  have := h.block p hp (fun e => hne (by injection e))
  simp only [World.cell?, this]
theorem SlR.grown {w w' : World} {A : Option Addr} {xs : List Value} {g : Nat} (h : SlR w A xs) (hg : w.grownBy w' (some g)) (hne : ∀ a, A = some a → a.block ≠ g) : SlR w' A xs := fun hn => by
  obtain ⟨b, off, e, hlt, hc⟩ := h hn
  exact ⟨b, off, e, Nat.lt_of_lt_of_le hlt hg.size, fun j u hu => (grown_cell hg hlt (hne _ e)).trans (hc j u hu)⟩
theorem SlR.int {w : World} {A : Option Addr} {l : List Int} (h : SlR w A (i64s l)) {k : Nat} (hk : k < l.length) : ∃ b off, A = some ⟨b, off, none⟩ ∧ w.cell? ⟨b, off + k, none⟩ = some (.int .i64 l[k]) := by
  obtain ⟨b, off, e, hlt, hc⟩ := h (fun e => by have := i64s_length l; rw [e] at this; simp at this; omega)
  exact ⟨b, off, e, hc k _ (by simp [i64s, hk])⟩

theorem WF_flip {n : Nat} {ws : List Nat} (h : WF n ws) {i : Nat} (hi : i < n) : WF n (flipW ws i) := by
  have := WF_set1 (on := !bitW ws i) h (i : Int)
  have e : turns (!bitW ws i) n ws (i : Int) = true := by simp [turns, hi]
  simpa [set1, e] using this
theorem gb_drew (w : World) (g : Option Nat) : w.grownBy w.drew g := ⟨rfl, rfl, rfl, Nat.le_refl _, fun _ _ _ => rfl⟩
theorem gb_set {a b : World} {g : Nat} (h1 : a.grownBy b (some g)) (i : Nat) (v : Value) : a.grownBy (b.setCell ⟨g, i, none⟩ v) (some g) :=
  ⟨h1.os, h1.tape, h1.output, by simpa [World.setCell] using h1.size, fun k hk hne => (Below.heap_setCell b _ v k (fun e => hne (by rw [e]))).trans (h1.block k hk hne)⟩
theorem gb_trans {a b c : World} {g : Nat} (h1 : a.grownBy b (some g)) (h2 : b.grownBy c (some g)) : a.grownBy c (some g) :=
  ⟨h2.os.trans h1.os, h2.tape.trans h1.tape, h2.output.trans h1.output, Nat.le_trans h1.size h2.size, fun k hk hne => (h2.block k (Nat.lt_of_lt_of_le hk h1.size) hne).trans (h1.block k hk hne)⟩
theorem MapAt.lt {W : World} {gm gw n : Nat} {ws : List Nat} (h : MapAt W gm gw n ws) : gm < W.heap.size ∧ gw < W.heap.size := by
  constructor
  · rcases Nat.lt_or_ge gm W.heap.size with hlt | hge
    · exact hlt
    · have := h.1; rw [Array.getElem?_eq_none hge] at this; cases this
  · rcases Nat.lt_or_ge gw W.heap.size with hlt | hge
    · exact hlt
    · have := h.2.1; rw [Array.getElem?_eq_none hge] at this; cases this
theorem MapAt.below {W W' : World} {gm gw n : Nat} {ws : List Nat} (h : MapAt W gm gw n ws) (hb : Below W.heap.size W W') : MapAt W' gm gw n ws :=
  ⟨(hb.block gm h.lt.1).trans h.1, (hb.block gw h.lt.2).trans h.2.1, h.2.2⟩
/-- a bit of the map is turned -/
theorem MapAt.flip {W : World} {gm gw n : Nat} {ws : List Nat} (h : MapAt W gm gw n ws) {i : Nat} (hi : i < n) (hl : i / 64 < ws.length) :
    MapAt (W.drew.setCell ⟨gw, i / 64, none⟩ (.int .u64 ((ws[i / 64] ^^^ 2 ^ (i % 64) : Nat) : Int))) gm gw n (flipW ws i) := by
  have e : flipW ws i = ws.set (i / 64) (ws[i / 64] ^^^ 2 ^ (i % 64)) := by simp [flipW, List.getD, hl]
  refine ⟨?_, ?_, WF_flip h.2.2.1 hi, h.2.2.2.1, h.2.2.2.2⟩
  · rw [e, List.length_set]
    exact (Below.heap_setCell W.drew _ _ _ (by simpa using h.2.2.2.2)).trans h.1
  · have h2 : W.drew.heap[gw]? = some (.cells (u64s ws).toArray 95 (0, 0)) := h.2.1
    rw [e]
    have := heap_setCell_same W.drew gw (i / 64) _ _ (.int .u64 ((ws[i / 64] ^^^ 2 ^ (i % 64) : Nat) : Int)) h2
    rw [this]
    simp [u64s]
end Go.Proofs.YtbadoihpbemjjaaDoor
/- The contract of Set. Condition: the bits' numbers are read, and lie elsewhere than the map's words. -/
namespace Go.Proofs.YtbadoihpbemjjaaDoor
open Go.RowKit

theorem cntL_le (on : Bool) (n : Nat) : ∀ (l : List Int) (ws : List Nat), cntL on n ws l ≤ l.length
  | [], _ => Nat.le_refl _
  | i :: l, ws => by
    have := cntL_le on n l (set1 on n ws i)
    have h1 : (turns on n ws i).toNat ≤ 1 := by cases turns on n ws i <;> simp
    simp only [cntL, List.length_cons]
    omega

theorem flip_val (x b : Nat) (hb : b < 64) (hx : x < 18446744073709551616) : bits .xor .u64 (x : Int) (IntKind.u64.wrap (2 ^ b)) = ((x ^^^ 2 ^ b : Nat) : Int) := by
  have h1 : (2 : Nat) ^ b < 2 ^ 64 := Nat.pow_lt_pow_right (by omega) hb
  have h2 : (2 : Nat) ^ 64 = 18446744073709551616 := by decide
  have e0 : (2 : Int) ^ b = ((2 ^ b : Nat) : Int) := by push_cast; rfl
  rw [e0]
  generalize 2 ^ b = P at *
  have e : IntKind.u64.wrap (P : Int) = (P : Int) := by rw [IntKind.wrap_u64]; omega
  rw [e, u64_xor_nat _ _ hx (by omega)]

set_option maxRecDepth 100000 in
set_option maxHeartbeats 1600000 in
theorem set_any (on : Bool) (l : List Int) (A : Option Addr) (cap : Nat) (W : World) (gm gw n : Nat) (ws : List Nat) (h : MapAt W gm gw n ws) (hA : SlR W A (i64s l)) (hne : l ≠ [] → ∀ a, A = some a → a.block ≠ gw) (hl : l.length ≤ 9223372036854775807) :
    Calls Tryd.prog 33 #[.pointer (some ⟨gm, 0, none⟩), .bool on, .slice A l.length cap] W
      fun e w' => e = .returned (.int .i64 ((cntL on n ws l : Nat) : Int)) ∧ MapAt w' gm gw n (setL on n ws l) ∧ W.grownBy w' (some gw) := by
  have H0 := Lib.hid h
  have HA := Lib.hid hA
  have Hne := Lib.hid hne
  clear h hA hne
  go_enter Tryd.func33, Tryd.ntmps33
  go_wp2_with fail
  go_loopw [7, 12] (fun c i wr => ∃ (k : Nat), k ≤ l.length ∧ i = .int .i64 k ∧ c = .int .i64 ((cntL on n ws (l.take k) : Nat) : Int) ∧ MapAt wr gm gw n (setL on n ws (l.take k)) ∧ W.grownBy wr (some gw)) (fun _ i _ => l.length - (intOf i).toNat)
  case atStart => exact ⟨0, Nat.zero_le _, rfl, rfl, H0.out, World.grownBy.refl _ _⟩
  case round =>
    obtain ⟨k, hk, rfl, rfl, hm, hgr⟩ := hrel
    have Hgr := Lib.hid hgr
    by_cases hlt : k < l.length
    · obtain ⟨b, off, rfl, hx⟩ := ((HA.out.grown hgr (Hne.out (by rintro rfl; simp at hlt))).int hlt)
      have hcl := cntL_le on n (l.take k) ws
      rw [List.length_take] at hcl
      obtain ⟨vs, hvs⟩ : ∃ vs, setL on n ws (l.take k) = vs := ⟨_, rfl⟩
      obtain ⟨c, hc⟩ : ∃ c, cntL on n ws (l.take k) = c := ⟨_, rfl⟩
      have Hvs := Lib.hid hvs
      have Hc := Lib.hid hc
      rw [hvs] at hm
      have HM := Lib.hid hm
      have hcb : c ≤ k := by rw [← hc]; omega
      rw [hc]
      have hw := hm.2.2.1
      clear hm hgr hvs hc hcl
      by_cases h0 : 0 ≤ l[k]
      · by_cases h1 : l[k] < (n : Int)
        · obtain ⟨j, hj0⟩ := Int.eq_ofNat_of_zero_le h0
          have hj : j < n := by omega
          have hl64 := in_len hw hj
          rw [hj0] at hx h0 h1
          by_cases hb : bitW vs j = on
          · have ht : (bitW vs j == on) = true := by simp [hb]
            have Ht : Hid (turns on n vs l[k] = false) := Lib.hid (by rw [hj0]; simp [turns, hb])
            clear hb hw
            go_wp2_with (first | (go_at_call 55; refine (len_any _ gm gw n vs HM.out).mono ?_; rintro e w' ⟨rfl, rfl⟩) | (go_at_call 56; refine (get_yes _ gm gw n vs j hj HM.out).mono ?_; rintro e w' ⟨rfl, rfl⟩))
            go_roundw
            case rel =>
              refine ⟨k + 1, by omega, by go_num, ?_, ?_, Hgr.out⟩
              · rw [List.take_succ_eq_append_getElem hlt, cntL_snoc, Hvs.out, Ht.out, ← Hc.out]; rfl
              · rw [List.take_succ_eq_append_getElem hlt, setL_snoc, Hvs.out, set1, Ht.out]; exact HM.out
            case measure => simp [intOf]; omega
          · have ht : (bitW vs j == on) = false := by simp [hb]
            have Ht : Hid (turns on n vs l[k] = true) := Lib.hid (by rw [hj0]; simp only [turns, Bool.and_eq_true, decide_eq_true_eq, Int.toNat_natCast]; exact ⟨⟨h0, h1⟩, by simp [bne, ht]⟩)
            have Hj := Lib.hid hj0
            have hxw := hw.lt _ (List.getElem_mem hl64)
            clear hb hw hj0
            go_wp2_with (first | (go_at_call 55; refine (len_any _ gm gw n vs HM.out).mono ?_; rintro e w' ⟨rfl, rfl⟩) | (go_at_call 56; refine (get_yes _ gm gw n vs j hj HM.out).mono ?_; rintro e w' ⟨rfl, rfl⟩))
            have c1 := cell_of_row w' gm 1 _ _ _ HM.out.1
            simp at c1
            have v := HM.out.word _ hl64
            have hf : w'.frozen? ⟨gw, j / 64, none⟩ = false := frozen_of_row w' gw _ _ _ HM.out.2.1
            have i4 : (j : Int) < 1048576 := by have := HM.out.2.2.2.1; omega
            have i3 : (j : Int) / 64 < (vs.length : Int) := by omega
            have i5 : ((j : Int) / 64).toNat = j / 64 := by omega
            have s1 : IntKind.i64.wrap ((j : Int) / 64) = (j : Int) / 64 := by rw [IntKind.wrap_i64]; omega
            have s2 : Int.tmod (j : Int) 64 = ((j % 64 : Nat) : Int) := by rw [Int.tmod_eq_emod_of_nonneg (by omega)]; simp
            have s3 : IntKind.i64.wrap ((j % 64 : Nat) : Int) = ((j % 64 : Nat) : Int) := by rw [IntKind.wrap_i64]; omega
            have i6 : (0 : Int) ≤ (j : Int) / 64 := by omega
            have s5 : ((j : Int) % 64).toNat = j % 64 := by omega
            have fv := flip_val vs[j / 64] (j % 64) (by omega) hxw
            clear s3
            go_region_law (fail)
            have hm2 : MapAt (w'.setCell ⟨gw, j / 64, none⟩ (.int .u64 ((vs[j / 64] ^^^ 2 ^ (j % 64) : Nat) : Int))).drew gm gw n (flipW vs j) := HM.out.flip hj hl64
            have hg2 : W.grownBy (w'.setCell ⟨gw, j / 64, none⟩ (.int .u64 ((vs[j / 64] ^^^ 2 ^ (j % 64) : Nat) : Int))).drew (some gw) := gb_trans (gb_set Hgr.out _ _) (gb_drew _ _)
            have Hm2 := Lib.hid hm2
            have Hg2 := Lib.hid hg2
            clear hm2 hg2 c1 v hf i3 i4 i5 i6 s1 s2 s5 fv
            go_wp2
            go_roundw
            case rel =>
              refine ⟨k + 1, by omega, by go_num, ?_, ?_, Hg2.out⟩
              · rw [List.take_succ_eq_append_getElem hlt, cntL_snoc, Hvs.out, Ht.out, ← Hc.out]; rfl
              · rw [List.take_succ_eq_append_getElem hlt, setL_snoc, Hvs.out, set1, Ht.out, Hj.out]; exact Hm2.out
            case measure => simp [intOf]; omega
        · have h2 : (n : Int) ≤ l[k] := by omega
          have Ht : Hid (turns on n vs l[k] = false) := Lib.hid (by simp [turns]; omega)
          clear hw
          go_wp2_with (go_at_call 55; refine (len_any _ gm gw n vs HM.out).mono ?_; rintro e w' ⟨rfl, rfl⟩)
          go_roundw
          case rel =>
            refine ⟨k + 1, by omega, by go_num, ?_, ?_, Hgr.out⟩
            · rw [List.take_succ_eq_append_getElem hlt, cntL_snoc, Hvs.out, Ht.out, ← Hc.out]; rfl
            · rw [List.take_succ_eq_append_getElem hlt, setL_snoc, Hvs.out, set1, Ht.out]; exact HM.out
          case measure => simp [intOf]; omega
      · have h2 : l[k] < 0 := by omega
        have Ht : Hid (turns on n vs l[k] = false) := Lib.hid (by simp [turns]; omega)
        clear hw
        go_wp2_with (go_at_call 55; refine (len_any _ gm gw n vs HM.out).mono ?_; rintro e w' ⟨rfl, rfl⟩)
        go_roundw
        case rel =>
          refine ⟨k + 1, by omega, by go_num, ?_, ?_, Hgr.out⟩
          · rw [List.take_succ_eq_append_getElem hlt, cntL_snoc, Hvs.out, Ht.out, ← Hc.out]; rfl
          · rw [List.take_succ_eq_append_getElem hlt, setL_snoc, Hvs.out, set1, Ht.out]; exact HM.out
        case measure => simp [intOf]; omega
    · have hkn : k = l.length := by omega
      have hm' : MapAt wr gm gw n (setL on n ws l) := by rw [hkn, List.take_length] at hm; exact hm
      have Hm := Lib.hid hm'
      have Hc : Hid (cntL on n ws (l.take k) = cntL on n ws l) := Lib.hid (by rw [hkn, List.take_length])
      clear hm hm' hgr
      go_wp2
      go_ret
      exact ⟨ret_int (by rw [Hc.out]), Hm.out, Hgr.out⟩
end Go.Proofs.YtbadoihpbemjjaaDoor
