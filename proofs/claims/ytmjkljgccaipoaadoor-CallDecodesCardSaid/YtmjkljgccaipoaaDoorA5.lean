/- The contract of Encode. -/
import Derived.Test.YtmjkljgccaipoaaDoorA3
import Derived.Test.YtmjkljgccaipoaaDoorA4
import Derived.Deep.RegionLaw
namespace Go.Proofs.YtmjkljgccaipoaaDoor
open Go.RowKit

theorem keepB {W w3 : World} {N g i : Nat} {v : Value} (hb : Below N W w3) (hg : g < N) (h : W.cell? ⟨g, i, none⟩ = some v) : w3.cell? ⟨g, i, none⟩ = some v :=
  (hb.cell (p := ⟨g, i, none⟩) hg).trans h
/-- the cells of a call that was boxed -/
theorem keepX {c : Cal} {A B : Option Addr} {cw ci g0 N : Nat} {W w3 : World} (hb : Below N W w3) (hg : g0 < N) (h : W.cell? ⟨g0, 0, none⟩ = some (.int .i64 c.op) ∧ W.cell? ⟨g0, 1, none⟩ = some (.int .i64 c.slot) ∧ W.cell? ⟨g0, 2, none⟩ = some (.int .i64 c.a) ∧ W.cell? ⟨g0, 3, none⟩ = some (.int .i64 c.b) ∧ W.cell? ⟨g0, 4, none⟩ = some (.int .i64 c.c) ∧ W.cell? ⟨g0, 5, none⟩ = some (.bool c.flag) ∧ W.cell? ⟨g0, 6, none⟩ = some (.int .u64 (c.x : Int)) ∧ W.cell? ⟨g0, 7, none⟩ = some (.slice A c.words.length cw) ∧ W.cell? ⟨g0, 8, none⟩ = some (.slice B c.items.length ci)) :
    w3.cell? ⟨g0, 0, none⟩ = some (.int .i64 c.op) ∧ w3.cell? ⟨g0, 1, none⟩ = some (.int .i64 c.slot) ∧ w3.cell? ⟨g0, 2, none⟩ = some (.int .i64 c.a) ∧ w3.cell? ⟨g0, 3, none⟩ = some (.int .i64 c.b) ∧ w3.cell? ⟨g0, 4, none⟩ = some (.int .i64 c.c) ∧ w3.cell? ⟨g0, 5, none⟩ = some (.bool c.flag) ∧ w3.cell? ⟨g0, 6, none⟩ = some (.int .u64 (c.x : Int)) ∧ w3.cell? ⟨g0, 7, none⟩ = some (.slice A c.words.length cw) ∧ w3.cell? ⟨g0, 8, none⟩ = some (.slice B c.items.length ci) :=
  ⟨keepB hb hg (h.1), keepB hb hg (h.2.1), keepB hb hg (h.2.2.1), keepB hb hg (h.2.2.2.1), keepB hb hg (h.2.2.2.2.1), keepB hb hg (h.2.2.2.2.2.1), keepB hb hg (h.2.2.2.2.2.2.1), keepB hb hg (h.2.2.2.2.2.2.2.1), keepB hb hg (h.2.2.2.2.2.2.2.2)⟩
theorem cellsX {c : Cal} {A B : Option Addr} {cw ci g0 : Nat} {W : World} (h : ∀ i, W.cell? ⟨g0, i, none⟩ = (#[.int .i64 c.op, .int .i64 c.slot, .int .i64 c.a, .int .i64 c.b, .int .i64 c.c, .bool c.flag, .int .u64 (c.x : Int), .slice A c.words.length cw, .slice B c.items.length ci] : Array Value)[i]?) :
    W.cell? ⟨g0, 0, none⟩ = some (.int .i64 c.op) ∧ W.cell? ⟨g0, 1, none⟩ = some (.int .i64 c.slot) ∧ W.cell? ⟨g0, 2, none⟩ = some (.int .i64 c.a) ∧ W.cell? ⟨g0, 3, none⟩ = some (.int .i64 c.b) ∧ W.cell? ⟨g0, 4, none⟩ = some (.int .i64 c.c) ∧ W.cell? ⟨g0, 5, none⟩ = some (.bool c.flag) ∧ W.cell? ⟨g0, 6, none⟩ = some (.int .u64 (c.x : Int)) ∧ W.cell? ⟨g0, 7, none⟩ = some (.slice A c.words.length cw) ∧ W.cell? ⟨g0, 8, none⟩ = some (.slice B c.items.length ci) :=
  ⟨(h 0).trans rfl, (h 1).trans rfl, (h 2).trans rfl, (h 3).trans rfl, (h 4).trans rfl, (h 5).trans rfl, (h 6).trans rfl, (h 7).trans rfl, (h 8).trans rfl⟩

theorem ownsRow_below {w w' : World} {base : Nat} {e : TypeId} {size : Nat} {v : Value} {n : Nat} {xs : List Value} (h : w.ownsRow base e size v n xs) (hb : Below w.heap.size w w') : w'.ownsRow base e size v n xs := by
  refine ⟨h.1, ?_⟩
  rcases h.2 with h0 | ⟨g, cap, cur, hv, hg, hh, r⟩
  · exact .inl h0
  · have hlt : g < w.heap.size := by
      rcases Nat.lt_or_ge g w.heap.size with hlt | hge
      · exact hlt
      · rw [Array.getElem?_eq_none hge] at hh; cases hh
    exact .inr ⟨g, cap, cur, hv, hg, (hb.block g hlt).trans hh, r⟩

theorem info_u64 : (Tryd.prog.info? 22).map (fun i => (i.zero, i.size, i.bytes)) = some (some (.int .u64 0), 1, 8) := by kernel_rfl

/-- what Encode hands back -/
def EncPost (w : World) (l : List Nat) (e : Ending) (w' : World) : Prop :=
  ∃ A cap, e = .returned (.slice A l.length cap) ∧ l.length ≤ cap ∧ SlR w' A (u64s l) ∧ Below w.heap.size w w'

theorem encode_no (c : Cal) (A B : Option Addr) (cw ci : Nat) (w : World) (hB : SlR w B (itemCells c.items)) (hl : c.items.length ≤ 9223372036854775807) (hl2 : c.words.length ≤ 9223372036854775807) (h : mayC c = false) :
    Calls Tryd.prog 15 #[.agg #[.int .i64 c.op, .int .i64 c.slot, .int .i64 c.a, .int .i64 c.b, .int .i64 c.c, .bool c.flag, .int .u64 (c.x : Int), .slice A c.words.length cw, .slice B c.items.length ci]] w (EncPost w (encC c)) := by
  have HB := Lib.hid hB
  have he : encC c = [] := by simp [encC, h]
  rw [he]
  clear hB he
  go_enter Tryd.func15, Tryd.ntmps15
  go_wp2_with (go_at_call 12; refine (may_any c A B cw ci _ (HB.out.below ((Below.refl _ _).alloc (Nat.le_refl _) _)) hl hl2).mono ?_; rintro e w1 ⟨rfl, hb⟩)
  go_ret
  exact ⟨none, 0, rfl, Nat.le_refl _, fun h => absurd rfl h, (box_after hb).1⟩

set_option maxRecDepth 100000 in
set_option maxHeartbeats 6400000 in
theorem encode_yes (c : Cal) (A B : Option Addr) (cw ci : Nat) (w : World) (hA : SlR w A (u64s c.words)) (hB : SlR w B (itemCells c.items)) (h : mayC c = true) :
    Calls Tryd.prog 15 #[.agg #[.int .i64 c.op, .int .i64 c.slot, .int .i64 c.a, .int .i64 c.b, .int .i64 c.c, .bool c.flag, .int .u64 (c.x : Int), .slice A c.words.length cw, .slice B c.items.length ci]] w (EncPost w (encC c)) := by
  obtain ⟨i0, hi0, hz0, hz1, hz2⟩ := info_parts info_u64
  have hm := (mayC_iff c).1 h
  have hln := hm.2.2.2.2.2.1
  have hln2 := hm.2.2.2.2.2.2.1
  have Hit := Lib.hid hm.1
  have Hh := Lib.hid h
  have HA := Lib.hid hA
  have HB := Lib.hid hB
  have he : encC c = headC c :: c.x :: (c.words ++ c.items.map codeI) := by simp [encC, h]
  have HE := Lib.hid he
  clear hA hB he hm
  go_enter Tryd.func15, Tryd.ntmps15
  go_wp2_with (go_at_call 12; refine (may_any c A B cw ci _ (HB.out.below ((Below.refl _ _).alloc (Nat.le_refl _) _)) (by omega) (by omega)).mono ?_; rintro e w1 ⟨rfl, hb⟩)
  clear h
  obtain ⟨hbw, hcb, hz⟩ := box_after hb
  have hX := cellsX hcb
  have HbW := Lib.hid hbw
  obtain ⟨x0, x1, x2, x3, x4, x5, x6, x7, x8⟩ := hX
  clear hcb hb hbw
  go_region_held3 (fun w' => w'.cell? ⟨w.heap.size, 0, none⟩ = some (.int .i64 c.op) ∧ w'.cell? ⟨w.heap.size, 1, none⟩ = some (.int .i64 c.slot) ∧ w'.cell? ⟨w.heap.size, 2, none⟩ = some (.int .i64 c.a) ∧ w'.cell? ⟨w.heap.size, 3, none⟩ = some (.int .i64 c.b) ∧ w'.cell? ⟨w.heap.size, 4, none⟩ = some (.int .i64 c.c) ∧ w'.cell? ⟨w.heap.size, 5, none⟩ = some (.bool c.flag) ∧ w'.cell? ⟨w.heap.size, 6, none⟩ = some (.int .u64 (c.x : Int)) ∧ w'.cell? ⟨w.heap.size, 7, none⟩ = some (.slice A c.words.length cw) ∧ w'.cell? ⟨w.heap.size, 8, none⟩ = some (.slice B c.items.length ci)) (first | exact keepX hb2 (Nat.lt_of_lt_of_le hz (Nat.le_refl _)) (by assumption) | exact keepX hb3 hzz (by assumption) | exact keepX ((Below.refl _ _).alloc (Nat.le_refl _) _) hzz (by assumption) | go_keep)
    (first | (go_at_call 28; refine (head_any c A B cw ci _ Hh.out).mono ?_; rintro e w2 ⟨rfl, hb2⟩; have hzz : w.heap.size < w2.heap.size := Nat.lt_of_lt_of_le hz hb2.size) | ((refine step_app _ rfl (.tmp 15) (.tmp 17) 23 rfl w2.heap.size 22 i0 _ 1 8 Tryd.underlying23 hi0 hz0 hz1 hz2 rfl (by omega) _ 2 2 [.int .u64 ((headC c : Nat) : Int), .int .u64 (c.x : Int)] rfl (World.ownsRow_lit _ _ _ (Nat.le_refl _) (by decide) rfl) _ _ _ (u64s c.words) rfl (by simp [u64s_length]) ((HA.out.below (HbW.out.drew.trans (hb2.mono (Nat.le_of_lt hz)))).below ((Below.refl _ _).alloc (Nat.le_refl _) _)) (u64s_one _) (by unfold maxLen; omega) (by omega) (by simp) ?_; intro A3 cap3 w3 hown hgr hb3)))
  have hb3w : Below w.heap.size w w3 := (HbW.out.drew.trans (hb2.mono (Nat.le_of_lt hz))).trans (((Below.refl _ _).alloc (Nat.le_of_lt hzz) _).trans (hb3.mono (Nat.le_of_lt hzz)))
  have Hb3 := Lib.hid hb3w
  have hown3 : w3.ownsRow w2.heap.size 22 1 (.slice A3 (2 + c.words.length) cap3) (2 + c.words.length) (u64s (headC c :: c.x :: c.words)) := hown
  have Hown := Lib.hid hown3
  have hs3 : w2.heap.size ≤ w3.heap.size := by have := hb3.size; simp at this; omega
  clear hb3w hown hown3 hgr hb3 hb2 x0 x1 x2 x3 x4 x5 x6 x7 x8
  rename_i hHeld
  obtain ⟨_, _, _, _, _, _, _, _, x8⟩ := hHeld
  go_wp2_with fail
  go_loopw [3, 22] (fun v i wr => ∃ (k : Nat) (A' : Option Addr) (cap' : Nat), k ≤ c.items.length ∧ i = .int .i64 k ∧ v = .slice A' (2 + c.words.length + k) cap' ∧
      wr.ownsRow w2.heap.size 22 1 (.slice A' (2 + c.words.length + k) cap') (2 + c.words.length + k) (u64s (headC c :: c.x :: (c.words ++ (c.items.take k).map codeI))) ∧ Below w2.heap.size w3 wr)
    (fun _ i _ => c.items.length - (intOf i).toNat)
  case atStart => exact ⟨0, A3, cap3, Nat.zero_le _, rfl, rfl, by simpa using Hown.out, Below.refl _ _⟩
  case round =>
    obtain ⟨k, A', cap', hk, rfl, rfl, hownr, hbr⟩ := hrel
    have Hownr := Lib.hid hownr
    have Hbr := Lib.hid hbr
    clear hownr hbr
    have hbw : Below w.heap.size w wr := Hb3.out.trans (Hbr.out.mono (Nat.le_of_lt hzz))
    by_cases hlt : k < c.items.length
    · obtain ⟨b, off, rfl, hbb, q0, q1, q2, q3, q4⟩ := (HB.out.below hbw).item hlt
      have hm : mayI c.items[k] = true := Hit.out _ (List.getElem_mem hlt)
      have Hbw := Lib.hid hbw
      clear hbw
      go_wp2_with (first | (go_at_call 24; refine (code_yes c.items[k] _ hm).mono ?_; rintro e w5 ⟨rfl, hb5⟩; have hz5 : w2.heap.size ≤ w5.heap.size := Nat.le_trans hs3 (Nat.le_trans Hbr.out.size (Nat.le_of_lt (box_after hb5).2.2))) | (at_builtin; refine wpList_app _ rfl (.tmp 31) (.tmp 33) 23 rfl w2.heap.size 22 i0 _ 1 8 Tryd.underlying23 hi0 hz0 hz1 hz2 rfl (by omega) _ _ _ _ rfl ((ownsRow_below (Hownr.out.alloc _) hb5).alloc _) _ 1 1 (u64s [codeI c.items[k]]) rfl rfl (SlR_new _ _ _) (u64s_one _) (by unfold maxLen; omega) (by omega) (by simp; omega) ?_; intro A7 cap7 w7 hown7 hgr7 hb7))
      have hb7' : Below w2.heap.size w3 w7 := (Hbr.out.trans (((Below.refl _ _).alloc (Nat.le_trans hs3 Hbr.out.size) _).trans (hb5.mono (by have := Hbr.out.size; simp; omega)))).trans (((Below.refl _ _).alloc hz5 _).trans hb7)
      have hown7' : w7.ownsRow w2.heap.size 22 1 (.slice A7 (2 + c.words.length + k + 1) cap7) (2 + c.words.length + k + 1) (u64s (headC c :: c.x :: (c.words ++ (c.items.take (k + 1)).map codeI))) := by
        rw [List.take_succ_eq_append_getElem hlt, List.map_append, ← List.append_assoc]
        simpa [u64s] using hown7
      have Hb7 := Lib.hid hb7'
      have Hown7 := Lib.hid hown7'
      clear hown7 hown7' hb7 hb7' hgr7 hb5
      go_wp2
      go_roundw
      case rel => exact ⟨k + 1, A7, cap7, by omega, by go_num, rfl, Hown7.out, Hb7.out⟩
      case measure => simp [intOf]; omega
    · have hk' : k = c.items.length := by omega
      have Hk := Lib.hid hk'
      clear hk' hbw
      go_wp2
      go_ret
      have hlen : (encC c).length = 2 + c.words.length + k := by rw [encC_length c Hh.out, Hk.out]
      refine ⟨A', cap', by rw [hlen]; rfl, by rw [hlen]; exact ownsRow_le Hownr.out, ?_, Hb3.out.trans (Hbr.out.mono (Nat.le_of_lt hzz))⟩
      have := ownsRow_sl Hownr.out
      rw [Hk.out, List.take_length] at this
      rw [HE.out]
      exact this

/-- Encode, of every call -/
theorem encode_any (c : Cal) (A B : Option Addr) (cw ci : Nat) (w : World) (hA : SlR w A (u64s c.words)) (hB : SlR w B (itemCells c.items)) (hl : c.items.length ≤ 9223372036854775807) (hl2 : c.words.length ≤ 9223372036854775807) :
    Calls Tryd.prog 15 #[.agg #[.int .i64 c.op, .int .i64 c.slot, .int .i64 c.a, .int .i64 c.b, .int .i64 c.c, .bool c.flag, .int .u64 (c.x : Int), .slice A c.words.length cw, .slice B c.items.length ci]] w (EncPost w (encC c)) := by
  by_cases h : mayC c = true
  · exact encode_yes c A B cw ci w hA hB h
  · exact encode_no c A B cw ci w hB hl hl2 (by simpa using h)
end Go.Proofs.YtmjkljgccaipoaaDoor
