/- The contract of the reference's Item. Condition: the word is 64 bits wide. -/
import Derived.Test.YtgacfgofpanchaaProg
import Derived.Test.YtgacfgofpanchaaG2
import Derived.WalkKit
import Derived.WalkLawsBesides
import Derived.WalkSpells
import Derived.Deep.QuietTactic
import Derived.BigQuiet
import Derived.Deep.RegionHeld3
import Derived.Deep.RegionLaw
import Derived.Outline
import Derived.Lib.LazyBuf
import Derived.Deep.WholeRow
namespace Go.Proofs.Ytgacfgofpanchaa
open Go.RowKit

def zeroI : Array Value := #[.int .i64 0, .int .i64 0, .int .i64 0, .int .i64 0, .bool false]
def itemV (i : Itm) : Array Value := #[.int .i64 i.base, .int .i64 i.order, .int .i64 i.rights, .int .i64 i.off, .bool i.grant]
theorem one_itemV (i : Itm) : (itemV i).all (·.oneCell') = true := by kernel_rfl
theorem one_zeroI : zeroI.all (·.oneCell') = true := by kernel_rfl
theorem info_itemS : (Try.prog.info? 24).map (·.size) = some 5 := by kernel_rfl
theorem item14_f0 (x : Nat) : (x : Int) % 256 = (itemOf x).base := by simp [itemOf]
theorem item14_f1 (x : Nat) : (x : Int) / 256 % 16 = (itemOf x).order := by simp [itemOf]
theorem item14_f2 (x : Nat) : (x : Int) / 4096 % 16 = (itemOf x).rights := by simp [itemOf]
theorem item14_f3 (x : Nat) : (x : Int) / 16777216 % 256 = (itemOf x).off := by simp [itemOf]
theorem item14_f4 (x : Nat) : ((x : Int) / 65536 % 2 == 1) = (itemOf x).grant := by
  rw [Bool.eq_iff_iff, beq_iff_eq]
  simp only [itemOf, decide_eq_true_eq]
  omega
theorem Item14_yes (x : Nat) (w : World) (hx : x < 18446744073709551616) (h : itemOk x = true) :
    Calls Try.prog 14 #[.int .u64 (x : Int)] w fun e w' => e = .returned (.tuple #[.agg #[.int .i64 (itemOf x).base, .int .i64 (itemOf x).order, .int .i64 (itemOf x).rights, .int .i64 (itemOf x).off, .bool (itemOf x).grant], .bool true]) ∧ Below w.heap.size w w' := by
  have f0 := item14_f0 x
  have f1 := item14_f1 x
  have f2 := item14_f2 x
  have f3 := item14_f3 x
  have f4 := item14_f4 x
  obtain ⟨hm, hc⟩ := (itemOk_iff x).1 h
  have ec : ((codeI (itemOf x) : Nat) : Int) = (x : Int) := by rw [hc]
  clear h hc
  generalize itemOf x = i at *
  have Hm := Lib.hid hm
  have Ec := Lib.hid ec
  clear hm ec
  go_enter Try.func14, Try.ntmps14
  go_wp2_with fail
  refine (Code14_yes i Hm.out _).mono ?_
  rintro e w1 ⟨rfl, hb⟩
  rw [Ec.out]
  obtain ⟨hbw, hc0, hc1, hz1⟩ := box2_after hb
  have y0 : w1.cell? ⟨w.heap.size + 1, 0, none⟩ = some (.int .i64 i.base) := (hc1 0).trans rfl
  have y1 : w1.cell? ⟨w.heap.size + 1, 1, none⟩ = some (.int .i64 i.order) := (hc1 1).trans rfl
  have y2 : w1.cell? ⟨w.heap.size + 1, 2, none⟩ = some (.int .i64 i.rights) := (hc1 2).trans rfl
  have y3 : w1.cell? ⟨w.heap.size + 1, 3, none⟩ = some (.int .i64 i.off) := (hc1 3).trans rfl
  have y4 : w1.cell? ⟨w.heap.size + 1, 4, none⟩ = some (.bool i.grant) := (hc1 4).trans rfl
  have hk : w1.heap[w.heap.size]? = some (.cells zeroI 24 (0, 0)) := (hb.block _ (by simp; omega)).trans ((Below.heap_alloc _ _ _ (by simp)).trans (heap_alloc_new w _))
  have Hbw := Lib.hid hbw
  clear hb hc0 hc1 f0 f1 f2 f3 f4 hbw
  go_wp2_with (refine wpList_store_whole 24 rfl (.tmp 2) (.tmp 40) rfl w.heap.size (itemV i) rfl rfl 24 zeroI hk info_itemS rfl (one_itemV i) ?_; intro w6 hk6 hg6)
  exact ret_cell_tmp Try.results14 rfl hk6 Try.underlying24 rfl info_itemS rfl ⟨rfl, Hbw.out.trans (grownBy_below hg6 (Nat.le_refl _) Hbw.out.size)⟩
theorem Item14_no1 (x : Nat) (w : World) (hx : x < 18446744073709551616) (hm : mayI (itemOf x) = false) :
    Calls Try.prog 14 #[.int .u64 (x : Int)] w fun e w' => e = .returned (.tuple #[.agg #[.int .i64 0, .int .i64 0, .int .i64 0, .int .i64 0, .bool false], .bool false]) ∧ Below w.heap.size w w' := by
  have f0 := item14_f0 x
  have f1 := item14_f1 x
  have f2 := item14_f2 x
  have f3 := item14_f3 x
  have f4 := item14_f4 x
  generalize itemOf x = i at *
  have Hm := Lib.hid hm
  clear hm
  go_enter Try.func14, Try.ntmps14
  go_wp2_with fail
  refine (Code14_no i Hm.out _).mono ?_
  rintro e w1 ⟨rfl, hb⟩
  obtain ⟨hbw, hc0, hc1, hz1⟩ := box2_after hb
  have hk : w1.heap[w.heap.size]? = some (.cells zeroI 24 (0, 0)) := (hb.block _ (by simp; omega)).trans ((Below.heap_alloc _ _ _ (by simp)).trans (heap_alloc_new w _))
  have Hbw := Lib.hid hbw
  clear hb hc0 hc1 f0 f1 f2 f3 f4 hbw
  go_wp2_with (refine wpList_store_whole 24 rfl (.tmp 2) (.tmp 39) rfl w.heap.size zeroI rfl rfl 24 zeroI hk info_itemS rfl one_zeroI ?_; intro w6 hk6 hg6)
  exact ret_cell_tmp Try.results14 rfl hk6 Try.underlying24 rfl info_itemS rfl ⟨rfl, Hbw.out.trans (grownBy_below hg6 (Nat.le_refl _) Hbw.out.size)⟩
theorem Item14_no2 (x : Nat) (w : World) (hx : x < 18446744073709551616) (hm : mayI (itemOf x) = true) (hc : codeI (itemOf x) ≠ x) :
    Calls Try.prog 14 #[.int .u64 (x : Int)] w fun e w' => e = .returned (.tuple #[.agg #[.int .i64 0, .int .i64 0, .int .i64 0, .int .i64 0, .bool false], .bool false]) ∧ Below w.heap.size w w' := by
  have f0 := item14_f0 x
  have f1 := item14_f1 x
  have f2 := item14_f2 x
  have f3 := item14_f3 x
  have f4 := item14_f4 x
  have ec1 : (((codeI (itemOf x) : Nat) : Int) != (x : Int)) = true := by simp; omega
  generalize itemOf x = i at *
  have Hm := Lib.hid hm
  clear hm hc
  go_enter Try.func14, Try.ntmps14
  go_wp2_with fail
  refine (Code14_yes i Hm.out _).mono ?_
  rintro e w1 ⟨rfl, hb⟩
  obtain ⟨hbw, hc0, hc1, hz1⟩ := box2_after hb
  have hk : w1.heap[w.heap.size]? = some (.cells zeroI 24 (0, 0)) := (hb.block _ (by simp; omega)).trans ((Below.heap_alloc _ _ _ (by simp)).trans (heap_alloc_new w _))
  have Hbw := Lib.hid hbw
  clear hb hc0 hc1 f0 f1 f2 f3 f4 hbw
  go_wp2_with (refine wpList_store_whole 24 rfl (.tmp 2) (.tmp 39) rfl w.heap.size zeroI rfl rfl 24 zeroI hk info_itemS rfl one_zeroI ?_; intro w6 hk6 hg6)
  exact ret_cell_tmp Try.results14 rfl hk6 Try.underlying24 rfl info_itemS rfl ⟨rfl, Hbw.out.trans (grownBy_below hg6 (Nat.le_refl _) Hbw.out.size)⟩
theorem Item14_no (x : Nat) (w : World) (hx : x < 18446744073709551616) (h : itemOk x = false) :
    Calls Try.prog 14 #[.int .u64 (x : Int)] w fun e w' => e = .returned (.tuple #[.agg #[.int .i64 0, .int .i64 0, .int .i64 0, .int .i64 0, .bool false], .bool false]) ∧ Below w.heap.size w w' := by
  cases hm : mayI (itemOf x)
  · exact Item14_no1 x w hx hm
  · exact Item14_no2 x w hx hm (fun hc => by rw [(itemOk_iff x).2 ⟨hm, hc⟩] at h; cases h)
end Go.Proofs.Ytgacfgofpanchaa
