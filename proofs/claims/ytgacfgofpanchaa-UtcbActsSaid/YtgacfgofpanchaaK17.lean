/- The contract of Tell; plain laws of what Put and Open leave in the bytes. No condition. -/
import Derived.Test.YtgacfgofpanchaaProg
import Derived.Test.YtgacfgofpanchaaK16
import Derived.WalkKit
import Derived.WalkLawsBesides
import Derived.WalkSpells
import Derived.Deep.QuietTactic
import Derived.BigQuiet
import Derived.Deep.RegionHeld3
import Derived.Deep.RegionLaw
import Derived.Outline
import Derived.Lib.LazyBuf
import Derived.Deep.WholeRow
namespace Go.Proofs.Ytgacfgofpanchaa
open Go.RowKit

theorem tell_nil (W : World) (q : Option Addr) (lb : Int) : Calls Try.prog 22 #[.pointer none, .pointer q, .int .u64 lb] W fun e w' => e = .returned (.int .i64 1) ∧ w' = W := by
  go_enter Try.func22, Try.ntmps22
  go_wp2
  go_ret
  exact ⟨rfl, rfl⟩
theorem run_words (l : Int) (A B : Option Addr) (n c k d : Nat) (w : World) : (Instr.field 43 (.agg #[.int .u64 l, .slice A n c, .slice B k d]) 1).run Try.prog w = .ok (.slice A n c) w := by kernel_rfl
theorem tell_to_nil (W : World) (bp ga gb N a lb : Nat) (f : Nat → Nat) (h : PB W bp ga gb N a f) : Calls Try.prog 22 #[.pointer (some ⟨bp, 0, none⟩), .pointer none, .int .u64 (lb : Int)] W fun e w' => e = .returned (.int .i64 1) ∧ Below W.heap.size W w' := by
  have H := Lib.hid h
  have hw := run_words
  clear h
  go_enter Try.func22, Try.ntmps22
  go_wp2_with fail
  refine (get_any _ bp ga gb N a f H.out).mono ?_
  rintro e w2 ⟨A, B, c, d, rfl, _, _, hb, _, _⟩
  have Hb := Lib.hid hb
  clear hb
  go_wp2_with fail
  refine (put_nil _ _ _ _ _ _ _ _).mono ?_
  rintro e w3 ⟨rfl, rfl⟩
  go_wp2
  go_ret
  exact ⟨rfl, Hb.out⟩
/-- the message that is told of another one -/
def toldM (lb : Nat) (m : Msg) : Msg := ⟨lb, m.words, []⟩
theorem toldM_ok (lb : Nat) (g : Nat → Nat) : putOk (toldM lb (getM g)) = true := putOk_words _ _ (getM_words_le g).1
theorem tell_core (W : World) (bp bq ga gb N _a b lb : Nat) (f : Nat → Nat) (g : Msg) (m : Msg) (hm : m = toldM lb g) (hok : putOk m = true) (h8 : g.words.length ≤ 8) (hlb : lb < 18446744073709551616) (hlw : ∀ x ∈ g.words, x < 18446744073709551616) (hget : Calls Try.prog 19 #[.pointer (some ⟨bp, 0, none⟩)] W (GetPost W g)) (hq : PB W bq ga gb N b f) : Calls Try.prog 22 #[.pointer (some ⟨bp, 0, none⟩), .pointer (some ⟨bq, 0, none⟩), .int .u64 (lb : Int)] W fun e w' => e = .returned (.int .i64 0) ∧ PB w' bq ga gb N b (putF f b m) ∧ W.grownBy w' (some gb) := by
  have HQ := Lib.hid hq
  have HM := Lib.hid hm
  have HO := Lib.hid hok
  have H8 := Lib.hid h8
  have HLB := Lib.hid hlb
  have HLW := Lib.hid hlw
  have HG := Lib.hid hget
  have hl : m.label = lb := by rw [hm]; rfl
  have hwd : m.words = g.words := by rw [hm]; rfl
  have hit : m.items.length = 0 := by rw [hm]; rfl
  have HL := Lib.hid hl
  have HWD := Lib.hid hwd
  have HIT := Lib.hid hit
  have hw := run_words
  clear hq hm hok h8 hlb hlw hget hl hwd hit
  go_enter Try.func22, Try.ntmps22
  go_wp2_with fail
  refine HG.out.mono ?_
  rintro e w2 ⟨A, B, c, d, rfl, hA, _, hb, _, _⟩
  have Hb := Lib.hid hb
  have HA := Lib.hid hA
  clear hb hA
  go_wp2_with fail
  have hput := put_any w2 bq ga gb N b f m A none g.words.length c 0 0 (by rw [HWD.out]) HIT.out (by have := H8.out; omega) (by rw [HWD.out]; exact HA.out) (fun h => absurd (by rw [List.eq_nil_of_length_eq_zero HIT.out]; rfl) h) (by rw [HWD.out]; exact HLW.out) (by rw [HL.out]; exact HLB.out) (HQ.out.below Hb.out)
  rw [HL.out] at hput
  refine hput.mono ?_
  rintro e w3 ⟨rfl, hp, hg⟩
  rw [if_pos HO.out] at hp
  rw [if_pos HO.out]
  have Hp := Lib.hid hp
  have Hg3 : Hid (W.grownBy w3 (some gb)) := Lib.hid (gb_trans (below_gb Hb.out) hg)
  clear hp hg hput
  go_wp2
  go_ret
  exact ⟨rfl, Hp.out, Hg3.out⟩
theorem tell_any (W : World) (bp bq ga gb N a b lb : Nat) (f : Nat → Nat) (m : Msg) (hm : m = toldM lb (getM (wd f a))) (hlb : lb < 18446744073709551616) (h : PB W bp ga gb N a f) (hq : PB W bq ga gb N b f) : Calls Try.prog 22 #[.pointer (some ⟨bp, 0, none⟩), .pointer (some ⟨bq, 0, none⟩), .int .u64 (lb : Int)] W fun e w' => e = .returned (.int .i64 0) ∧ PB w' bq ga gb N b (putF f b m) ∧ W.grownBy w' (some gb) :=
  tell_core W bp bq ga gb N a b lb f (getM (wd f a)) m hm (by rw [hm]; exact toldM_ok lb _) (getM_words_le _).1 hlb (getM_lt _ (fun i => h.wd_lt i)).2 (get_any W bp ga gb N a f h) hq

def openF (f : Nat → Nat) (a : Nat) (w : Wnd) : Nat → Nat := storeF f (a + 8 * 2) [w.base.toNat + 256 * w.order.toNat] 8
theorem putF_out (f : Nat → Nat) (a : Nat) (m : Msg) (j : Nat) (h : j < a ∨ a + 104 ≤ j) : putF f a m j = f j := by
  unfold putF
  rw [storeF_out _ _ _ _ _ (by omega), storeF_out _ _ _ _ _ (by omega)]
theorem openF_out (f : Nat → Nat) (a : Nat) (w : Wnd) (j : Nat) (h : j < a ∨ a + 104 ≤ j) : openF f a w j = f j := storeF_out _ _ _ _ _ (by omega)
theorem putF_lt (f : Nat → Nat) (a : Nat) (m : Msg) (hf : ∀ i, f i < 256) (j : Nat) : putF f a m j < 256 := storeF_lt _ _ _ _ (storeF_lt _ _ _ _ hf) j
theorem openF_lt (f : Nat → Nat) (a : Nat) (w : Wnd) (hf : ∀ i, f i < 256) (j : Nat) : openF f a w j < 256 := storeF_lt _ _ _ _ hf j
theorem wd_congr {f g : Nat → Nat} (b : Nat) (i : Nat) (h : ∀ j, j < 8 → f (b + 8 * i + j) = g (b + 8 * i + j)) : wd f b i = wd g b i := sumB_congr _ _ _ _ h
theorem wd_putF_apart (f : Nat → Nat) (a b i : Nat) (m : Msg) (h : b + 8 * i + 8 ≤ a ∨ a + 104 ≤ b + 8 * i) : wd (putF f a m) b i = wd f b i := wd_congr b i fun j hj => putF_out _ _ _ _ (by omega)
theorem wd_openF_apart (f : Nat → Nat) (a b i : Nat) (w : Wnd) (h : b + 8 * i + 8 ≤ a ∨ a + 104 ≤ b + 8 * i) : wd (openF f a w) b i = wd f b i := wd_congr b i fun j hj => openF_out _ _ _ _ (by omega)
/-- a message whose numbers are 64 bits wide -/
def MsgR (m : Msg) : Prop := m.label < 18446744073709551616 ∧ ∀ x ∈ m.words, x < 18446744073709551616
theorem wd_putF (f : Nat → Nat) (a i : Nat) (m : Msg) (hm : MsgR m) (ok : putOk m = true) : wd (putF f a m) a i = putG m (wd f a) i := by
  obtain ⟨k1, k2, k3⟩ := (putOk_iff m).1 ok
  have ht := ten_lt m.words (m.items.map codeI) hm.2 (fun x hx => by
    obtain ⟨i, hi, rfl⟩ := List.mem_map.1 hx
    have := codeI_lt i (k3 i hi)
    omega)
  unfold wd putF putG
  by_cases h0 : i < 2
  · rw [sum_apart _ _ _ _ _ (by omega)]
    have e : a + 8 * i = a + 8 * 0 + 8 * i := by omega
    rw [e, sum_store f (a + 8 * 0) i (2 * 8) [m.words.length + 16 * m.items.length, m.label] (by simpa using h0) rfl]
    · by_cases h : i = 0
      · subst h; rfl
      · have : i = 1 := by omega
        subst this; rfl
    · by_cases h : i = 0
      · subst h; show m.words.length + 16 * m.items.length < _; omega
      · have : i = 1 := by omega
        subst this; exact hm.1
  · rw [if_neg (by omega), if_neg (by omega)]
    by_cases h1 : 3 ≤ i ∧ i < 13
    · rw [if_pos h1]
      have hl : i - 3 < (ten m.words (m.items.map codeI)).length := by rw [ten_length]; omega
      have e : a + 8 * i = a + 8 * 3 + 8 * (i - 3) := by omega
      rw [e, sum_store _ (a + 8 * 3) (i - 3) (10 * 8) _ hl (by rw [ten_length]) (ht _ (List.getElem_mem hl)), getD_lt hl]
    · rw [if_neg h1, sum_apart _ _ _ _ _ (by omega), sum_apart _ _ _ _ _ (by omega)]
theorem wd_openF (f : Nat → Nat) (a i : Nat) (w : Wnd) (ok : winOk w = true) : wd (openF f a w) a i = openG w (wd f a) i := by
  obtain ⟨q1, q2, q3, q4, _⟩ := (winOk_iff w).1 ok
  unfold wd openF openG
  by_cases h : i = 2
  · subst h
    rw [if_pos rfl]
    have := sum_store f (a + 8 * 2) 0 8 [w.base.toNat + 256 * w.order.toNat] (by simp) rfl (by show w.base.toNat + 256 * w.order.toNat < _; omega)
    simpa using this
  · rw [if_neg h, sum_apart _ _ _ _ _ (by omega)]
end Go.Proofs.Ytgacfgofpanchaa
