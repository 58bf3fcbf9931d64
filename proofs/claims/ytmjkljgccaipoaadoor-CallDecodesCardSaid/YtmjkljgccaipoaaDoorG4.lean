/- The contract of the reference's Encode of calls. Condition: the call's lists are read. -/
import Derived.Test.YtmjkljgccaipoaaDoorG3
import Derived.Deep.RegionLaw
namespace Go.Proofs.YtmjkljgccaipoaaDoor
open Go.RowKit

theorem may21_lit (c : Cal) (r : Bool) (hr : mayC c = r) (A B : Option Addr) (cw ci : Nat) (w : World) (h : CallR w c A B) :
    Calls Tryd.prog 13 #[.agg #[.int .i64 c.op, .int .i64 c.slot, .int .i64 c.a, .int .i64 c.b, .int .i64 c.c, .bool c.flag, .int .u64 (c.x : Int), .slice A c.words.length cw, .slice B c.items.length ci]] w
      fun e w' => e = .returned (.bool r) ∧ Below w.heap.size w w' := by
  have := may21_any c A B cw ci w h
  rw [hr] at this
  exact this

theorem enc21_no (c : Cal) (A B : Option Addr) (cw ci : Nat) (w : World) (h : CallR w c A B) (hm : mayC c = false) :
    Calls Tryd.prog 16 #[.agg #[.int .i64 c.op, .int .i64 c.slot, .int .i64 c.a, .int .i64 c.b, .int .i64 c.c, .bool c.flag, .int .u64 (c.x : Int), .slice A c.words.length cw, .slice B c.items.length ci]] w (EncPost w (encC c)) := by
  have he : encC c = [] := by simp [encC, hm]
  rw [he]
  have Hst0 := Lib.hid (St1.new (cw := cw) (ci := ci) h)
  clear h he
  go_enter Tryd.func16, Tryd.ntmps16
  go_wp2_with (go_at_call 13; refine (may21_lit c false hm _ _ _ _ _ Hst0.out.r).mono ?_; rintro e w1 ⟨rfl, hb⟩; have Hst1 := Lib.hid (Hst0.out.step hb))
  go_ret
  exact ⟨none, 0, rfl, Nat.le_refl _, fun h => absurd rfl h, Hst1.out.1⟩

theorem horner0 (op slot a b cc : Int) (wl il : Nat) (h1 : 0 ≤ op) (h2 : 0 ≤ slot) (h3 : 0 ≤ a) (h4 : 0 ≤ b) (h5 : 0 ≤ cc) :
    (((((cc * 256 + b) * 256 + a) * 2 * 2 * 4 + (il : Int)) * 16 + (wl : Int)) * 256 + op) * 256 + slot = ((slot.toNat + 256 * op.toNat + 65536 * wl + 1048576 * il + 0 + 16777216 * a.toNat + 4294967296 * b.toNat + 1099511627776 * cc.toNat : Nat) : Int) := by
  obtain ⟨op, rfl⟩ := Int.eq_ofNat_of_zero_le h1
  obtain ⟨slot, rfl⟩ := Int.eq_ofNat_of_zero_le h2
  obtain ⟨a, rfl⟩ := Int.eq_ofNat_of_zero_le h3
  obtain ⟨b, rfl⟩ := Int.eq_ofNat_of_zero_le h4
  obtain ⟨cc, rfl⟩ := Int.eq_ofNat_of_zero_le h5
  simp only [Int.toNat_natCast]
  omega
theorem horner1 (op slot a b cc : Int) (wl il : Nat) (h1 : 0 ≤ op) (h2 : 0 ≤ slot) (h3 : 0 ≤ a) (h4 : 0 ≤ b) (h5 : 0 ≤ cc) :
    ((((((cc * 256 + b) * 256 + a) * 2 * 2 + 1) * 4 + (il : Int)) * 16 + (wl : Int)) * 256 + op) * 256 + slot = ((slot.toNat + 256 * op.toNat + 65536 * wl + 1048576 * il + 4194304 + 16777216 * a.toNat + 4294967296 * b.toNat + 1099511627776 * cc.toNat : Nat) : Int) := by
  obtain ⟨op, rfl⟩ := Int.eq_ofNat_of_zero_le h1
  obtain ⟨slot, rfl⟩ := Int.eq_ofNat_of_zero_le h2
  obtain ⟨a, rfl⟩ := Int.eq_ofNat_of_zero_le h3
  obtain ⟨b, rfl⟩ := Int.eq_ofNat_of_zero_le h4
  obtain ⟨cc, rfl⟩ := Int.eq_ofNat_of_zero_le h5
  simp only [Int.toNat_natCast]
  omega

set_option maxRecDepth 100000 in
set_option maxHeartbeats 6400000 in
theorem enc21_false (c : Cal) (A B : Option Addr) (cw ci : Nat) (w : World) (h : CallR w c A B) (hm : mayC c = true) (hf : c.flag = false) :
    Calls Tryd.prog 16 #[.agg #[.int .i64 c.op, .int .i64 c.slot, .int .i64 c.a, .int .i64 c.b, .int .i64 c.c, .bool c.flag, .int .u64 (c.x : Int), .slice A c.words.length cw, .slice B c.items.length ci]] w (EncPost w (encC c)) := by
  obtain ⟨i0, hi0, hz0, hz1, hz2⟩ := info_parts info_u64
  obtain ⟨hit, o1, o2, s1, s2, hln, hln2, a1, a2, b1, b2, e1, e2⟩ := (mayC_iff c).1 hm
  have Hit := Lib.hid hit
  have Hm := Lib.hid hm
  have Hst0 := Lib.hid (St1.new (cw := cw) (ci := ci) h)
  have HE : Hid (encC c = headC c :: c.x :: (c.words ++ c.items.map codeI)) := Lib.hid (by simp [encC, hm])
  obtain ⟨v1, qv1⟩ : ∃ v : Int, v = c.c * 256 := ⟨_, rfl⟩
  obtain ⟨v2, qv2⟩ : ∃ v : Int, v = v1 + c.b := ⟨_, rfl⟩
  obtain ⟨v3, qv3⟩ : ∃ v : Int, v = v2 * 256 := ⟨_, rfl⟩
  obtain ⟨v4, qv4⟩ : ∃ v : Int, v = v3 + c.a := ⟨_, rfl⟩
  obtain ⟨v5, qv5⟩ : ∃ v : Int, v = v4 * 2 := ⟨_, rfl⟩
  obtain ⟨v6, qv6⟩ : ∃ v : Int, v = v5 * 2 := ⟨_, rfl⟩
  obtain ⟨v7, qv7⟩ : ∃ v : Int, v = v6 * 4 := ⟨_, rfl⟩
  obtain ⟨v8, qv8⟩ : ∃ v : Int, v = v7 + (c.items.length : Int) := ⟨_, rfl⟩
  obtain ⟨v9, qv9⟩ : ∃ v : Int, v = v8 * 16 := ⟨_, rfl⟩
  obtain ⟨v10, qv10⟩ : ∃ v : Int, v = v9 + (c.words.length : Int) := ⟨_, rfl⟩
  obtain ⟨v11, qv11⟩ : ∃ v : Int, v = v10 * 256 := ⟨_, rfl⟩
  obtain ⟨v12, qv12⟩ : ∃ v : Int, v = v11 + c.op := ⟨_, rfl⟩
  obtain ⟨v13, qv13⟩ : ∃ v : Int, v = v12 * 256 := ⟨_, rfl⟩
  obtain ⟨v14, qv14⟩ : ∃ v : Int, v = v13 + c.slot := ⟨_, rfl⟩
  have rv1 : IntKind.u64.wrap (c.c * 256) = v1 := by rw [IntKind.wrap_u64]; omega
  have rv2 : IntKind.u64.wrap (v1 + c.b) = v2 := by rw [IntKind.wrap_u64]; omega
  have rv3 : IntKind.u64.wrap (v2 * 256) = v3 := by rw [IntKind.wrap_u64]; omega
  have rv4 : IntKind.u64.wrap (v3 + c.a) = v4 := by rw [IntKind.wrap_u64]; omega
  have rv5 : IntKind.u64.wrap (v4 * 2) = v5 := by rw [IntKind.wrap_u64]; omega
  have rv6 : IntKind.u64.wrap (v5 * 2) = v6 := by rw [IntKind.wrap_u64]; omega
  have rv7 : IntKind.u64.wrap (v6 * 4) = v7 := by rw [IntKind.wrap_u64]; omega
  have rv8 : IntKind.u64.wrap (v7 + (c.items.length : Int)) = v8 := by rw [IntKind.wrap_u64]; omega
  have rv9 : IntKind.u64.wrap (v8 * 16) = v9 := by rw [IntKind.wrap_u64]; omega
  have rv10 : IntKind.u64.wrap (v9 + (c.words.length : Int)) = v10 := by rw [IntKind.wrap_u64]; omega
  have rv11 : IntKind.u64.wrap (v10 * 256) = v11 := by rw [IntKind.wrap_u64]; omega
  have rv12 : IntKind.u64.wrap (v11 + c.op) = v12 := by rw [IntKind.wrap_u64]; omega
  have rv13 : IntKind.u64.wrap (v12 * 256) = v13 := by rw [IntKind.wrap_u64]; omega
  have rv14 : IntKind.u64.wrap (v13 + c.slot) = v14 := by rw [IntKind.wrap_u64]; omega
  have sc : IntKind.u64.wrap c.c = c.c := by rw [IntKind.wrap_u64]; omega
  have sb : IntKind.u64.wrap c.b = c.b := by rw [IntKind.wrap_u64]; omega
  have sa : IntKind.u64.wrap c.a = c.a := by rw [IntKind.wrap_u64]; omega
  have si : IntKind.u64.wrap (c.items.length : Int) = (c.items.length : Int) := by rw [IntKind.wrap_u64]; omega
  have sw : IntKind.u64.wrap (c.words.length : Int) = (c.words.length : Int) := by rw [IntKind.wrap_u64]; omega
  have so : IntKind.u64.wrap c.op = c.op := by rw [IntKind.wrap_u64]; omega
  have ss : IntKind.u64.wrap c.slot = c.slot := by rw [IntKind.wrap_u64]; omega
  have HX : Hid (v14 = ((headC c : Nat) : Int)) := Lib.hid (by
    have := horner0 c.op c.slot c.a c.b c.c c.words.length c.items.length (by omega) s1 a1 b1 e1
    unfold headC
    rw [hf]
    simp only [Bool.false_eq_true, if_true, if_false]
    rw [← this]
    omega)
  have hwl : c.words.length ≤ 8 := hln
  have Hf := Lib.hid hf
  clear h hm hit hf qv1 qv2 qv3 qv4 qv5 qv6 qv7 qv8 qv9 qv10 qv11 qv12 qv13 qv14 o1 o2 s1 s2 a1 a2 b1 b2 e1 e2
  go_enter Tryd.func16, Tryd.ntmps16
  go_wp2_with fail
  refine (may21_lit c true Hm.out _ _ _ _ _ Hst0.out.r).mono ?_
  rintro e w1 ⟨rfl, hb⟩
  have Hst1 := Lib.hid (Hst0.out.step hb)
  clear hb Hst0
  obtain ⟨c0, c1, c2, c3, c4, c5, c6, c7, c8⟩ := Hst1.out.cells
  rw [Hf.out] at c5
  have hz : w.heap.size < w1.heap.size := World.block_lt_of_cell? w1 ⟨w.heap.size, 0, none⟩ c0
  go_wp2_with (at_builtin; refine wpList_app _ rfl (.tmp 63) (.tmp 65) 23 rfl w1.heap.size 22 i0 _ 1 8 Tryd.underlying23 hi0 hz0 hz1 hz2 rfl (by omega) _ 2 2 [.int .u64 v14, .int .u64 (c.x : Int)] rfl (World.ownsRow_lit _ _ _ (Nat.le_refl _) (by decide) rfl) _ _ _ (u64s c.words) rfl (by simp [u64s_length]) (Hst1.out.alloc _).r.1 (u64s_one _) (by unfold maxLen; omega) (by omega) (by simp) ?_; intro A3 cap3 w3 hown hgr hb3)
  have hb13 : Below w1.heap.size w1 w3 := ((Below.refl _ _).alloc (Nat.le_refl _) _).trans hb3
  have hown3 : w3.ownsRow w1.heap.size 22 1 (.slice A3 (2 + c.words.length) cap3) (2 + c.words.length) (u64s (headC c :: c.x :: c.words)) := by
    rw [HX.out] at hown
    exact hown
  have Hb3 := Lib.hid hb13
  have Hown := Lib.hid hown3
  clear hown hown3 hgr hb3 hb13 c0 c1 c2 c3 c4 c5 c6 c7 c8
  go_loopw [4, 5] (fun v i wr => ∃ (k : Nat) (A' : Option Addr) (cap' : Nat), k ≤ c.items.length ∧ i = .int .i64 k ∧ v = .slice A' (2 + c.words.length + k) cap' ∧
      wr.ownsRow w1.heap.size 22 1 (.slice A' (2 + c.words.length + k) cap') (2 + c.words.length + k) (u64s (headC c :: c.x :: (c.words ++ (c.items.take k).map codeI))) ∧ Below w1.heap.size w1 wr)
    (fun _ i _ => c.items.length - (intOf i).toNat)
  case atStart => exact ⟨0, A3, cap3, Nat.zero_le _, rfl, rfl, by simpa using Hown.out, Hb3.out⟩
  case round =>
    obtain ⟨k, A', cap', hk, rfl, rfl, hownr, hbr⟩ := hrel
    have Hownr := Lib.hid hownr
    have Hbr := Lib.hid hbr
    have Hstr := Lib.hid (Hst1.out.step hbr)
    clear hownr hbr
    obtain ⟨c0, c1, c2, c3, c4, c5, c6, c7, c8⟩ := Hstr.out.cells
    clear c0 c1 c2 c3 c4 c5 c6 c7
    by_cases hlt : k < c.items.length
    · obtain ⟨b, off, rfl, hbb, q0, q1, q2, q3, q4⟩ := Hstr.out.r.2.1.item hlt
      have hmi : mayI c.items[k] = true := Hit.out _ (List.getElem_mem hlt)
      have hzr := Hbr.out.size
      go_wp2_with (first | (go_at_call 29; refine (Code14_yes c.items[k] hmi _).mono ?_; rintro e w5 ⟨rfl, hb5⟩; have hz5 : w1.heap.size ≤ w5.heap.size := Nat.le_trans hzr hb5.size) | (at_builtin; refine wpList_app _ rfl (.tmp 83) (.tmp 85) 23 rfl w1.heap.size 22 i0 _ 1 8 Tryd.underlying23 hi0 hz0 hz1 hz2 rfl (by omega) _ _ _ _ rfl ((ownsRow_below Hownr.out hb5).alloc _) _ 1 1 (u64s [codeI c.items[k]]) rfl rfl (SlR_new _ _ _) (u64s_one _) (by unfold maxLen; omega) (by omega) (by simp; omega) ?_; intro A7 cap7 w7 hown7 hgr7 hb7))
      have hb7' : Below w1.heap.size w1 w7 := (Hbr.out.trans (hb5.mono hzr)).trans (((Below.refl _ _).alloc hz5 _).trans hb7)
      have hown7' : w7.ownsRow w1.heap.size 22 1 (.slice A7 (2 + c.words.length + k + 1) cap7) (2 + c.words.length + k + 1) (u64s (headC c :: c.x :: (c.words ++ (c.items.take (k + 1)).map codeI))) := by
        rw [List.take_succ_eq_append_getElem hlt, List.map_append, ← List.append_assoc]
        simpa [u64s] using hown7
      have Hb7 := Lib.hid hb7'
      have Hown7 := Lib.hid hown7'
      clear hown7 hown7' hb7 hb7' hgr7 hb5
      go_wp2
      go_roundw
      case rel => exact ⟨k + 1, A7, cap7, by omega, by go_num, rfl, Hown7.out, Hb7.out⟩
      case measure => simp [intOf]; omega
    · have hk' : k = c.items.length := by omega
      have Hk := Lib.hid hk'
      clear hk'
      go_wp2
      go_ret
      have hlen : (encC c).length = 2 + c.words.length + k := by rw [encC_length c Hm.out, Hk.out]
      refine ⟨A', cap', by rw [hlen]; rfl, by rw [hlen]; exact ownsRow_le Hownr.out, ?_, Hstr.out.1⟩
      have := ownsRow_sl Hownr.out
      rw [Hk.out, List.take_length] at this
      rw [HE.out]
      exact this
set_option maxRecDepth 100000 in
set_option maxHeartbeats 6400000 in
theorem enc21_true (c : Cal) (A B : Option Addr) (cw ci : Nat) (w : World) (h : CallR w c A B) (hm : mayC c = true) (hf : c.flag = true) :
    Calls Tryd.prog 16 #[.agg #[.int .i64 c.op, .int .i64 c.slot, .int .i64 c.a, .int .i64 c.b, .int .i64 c.c, .bool c.flag, .int .u64 (c.x : Int), .slice A c.words.length cw, .slice B c.items.length ci]] w (EncPost w (encC c)) := by
  obtain ⟨i0, hi0, hz0, hz1, hz2⟩ := info_parts info_u64
  obtain ⟨hit, o1, o2, s1, s2, hln, hln2, a1, a2, b1, b2, e1, e2⟩ := (mayC_iff c).1 hm
  have Hit := Lib.hid hit
  have Hm := Lib.hid hm
  have Hst0 := Lib.hid (St1.new (cw := cw) (ci := ci) h)
  have HE : Hid (encC c = headC c :: c.x :: (c.words ++ c.items.map codeI)) := Lib.hid (by simp [encC, hm])
  obtain ⟨v1, qv1⟩ : ∃ v : Int, v = c.c * 256 := ⟨_, rfl⟩
  obtain ⟨v2, qv2⟩ : ∃ v : Int, v = v1 + c.b := ⟨_, rfl⟩
  obtain ⟨v3, qv3⟩ : ∃ v : Int, v = v2 * 256 := ⟨_, rfl⟩
  obtain ⟨v4, qv4⟩ : ∃ v : Int, v = v3 + c.a := ⟨_, rfl⟩
  obtain ⟨v5, qv5⟩ : ∃ v : Int, v = v4 * 2 := ⟨_, rfl⟩
  obtain ⟨v6, qv6⟩ : ∃ v : Int, v = v5 * 2 := ⟨_, rfl⟩
  obtain ⟨vf, qvf⟩ : ∃ v : Int, v = v6 + 1 := ⟨_, rfl⟩
  obtain ⟨v7, qv7⟩ : ∃ v : Int, v = vf * 4 := ⟨_, rfl⟩
  obtain ⟨v8, qv8⟩ : ∃ v : Int, v = v7 + (c.items.length : Int) := ⟨_, rfl⟩
  obtain ⟨v9, qv9⟩ : ∃ v : Int, v = v8 * 16 := ⟨_, rfl⟩
  obtain ⟨v10, qv10⟩ : ∃ v : Int, v = v9 + (c.words.length : Int) := ⟨_, rfl⟩
  obtain ⟨v11, qv11⟩ : ∃ v : Int, v = v10 * 256 := ⟨_, rfl⟩
  obtain ⟨v12, qv12⟩ : ∃ v : Int, v = v11 + c.op := ⟨_, rfl⟩
  obtain ⟨v13, qv13⟩ : ∃ v : Int, v = v12 * 256 := ⟨_, rfl⟩
  obtain ⟨v14, qv14⟩ : ∃ v : Int, v = v13 + c.slot := ⟨_, rfl⟩
  have rv1 : IntKind.u64.wrap (c.c * 256) = v1 := by rw [IntKind.wrap_u64]; omega
  have rv2 : IntKind.u64.wrap (v1 + c.b) = v2 := by rw [IntKind.wrap_u64]; omega
  have rv3 : IntKind.u64.wrap (v2 * 256) = v3 := by rw [IntKind.wrap_u64]; omega
  have rv4 : IntKind.u64.wrap (v3 + c.a) = v4 := by rw [IntKind.wrap_u64]; omega
  have rv5 : IntKind.u64.wrap (v4 * 2) = v5 := by rw [IntKind.wrap_u64]; omega
  have rv6 : IntKind.u64.wrap (v5 * 2) = v6 := by rw [IntKind.wrap_u64]; omega
  have rvf : IntKind.u64.wrap (v6 + 1) = vf := by rw [IntKind.wrap_u64]; omega
  have rv7 : IntKind.u64.wrap (vf * 4) = v7 := by rw [IntKind.wrap_u64]; omega
  have rv8 : IntKind.u64.wrap (v7 + (c.items.length : Int)) = v8 := by rw [IntKind.wrap_u64]; omega
  have rv9 : IntKind.u64.wrap (v8 * 16) = v9 := by rw [IntKind.wrap_u64]; omega
  have rv10 : IntKind.u64.wrap (v9 + (c.words.length : Int)) = v10 := by rw [IntKind.wrap_u64]; omega
  have rv11 : IntKind.u64.wrap (v10 * 256) = v11 := by rw [IntKind.wrap_u64]; omega
  have rv12 : IntKind.u64.wrap (v11 + c.op) = v12 := by rw [IntKind.wrap_u64]; omega
  have rv13 : IntKind.u64.wrap (v12 * 256) = v13 := by rw [IntKind.wrap_u64]; omega
  have rv14 : IntKind.u64.wrap (v13 + c.slot) = v14 := by rw [IntKind.wrap_u64]; omega
  have sc : IntKind.u64.wrap c.c = c.c := by rw [IntKind.wrap_u64]; omega
  have sb : IntKind.u64.wrap c.b = c.b := by rw [IntKind.wrap_u64]; omega
  have sa : IntKind.u64.wrap c.a = c.a := by rw [IntKind.wrap_u64]; omega
  have si : IntKind.u64.wrap (c.items.length : Int) = (c.items.length : Int) := by rw [IntKind.wrap_u64]; omega
  have sw : IntKind.u64.wrap (c.words.length : Int) = (c.words.length : Int) := by rw [IntKind.wrap_u64]; omega
  have so : IntKind.u64.wrap c.op = c.op := by rw [IntKind.wrap_u64]; omega
  have ss : IntKind.u64.wrap c.slot = c.slot := by rw [IntKind.wrap_u64]; omega
  have HX : Hid (v14 = ((headC c : Nat) : Int)) := Lib.hid (by
    have := horner1 c.op c.slot c.a c.b c.c c.words.length c.items.length (by omega) s1 a1 b1 e1
    unfold headC
    rw [hf]
    simp only [Bool.false_eq_true, if_true, if_false]
    rw [← this]
    omega)
  have hwl : c.words.length ≤ 8 := hln
  have Hf := Lib.hid hf
  clear h hm hit hf qv1 qv2 qv3 qv4 qv5 qv6 qvf qv7 qv8 qv9 qv10 qv11 qv12 qv13 qv14 o1 o2 s1 s2 a1 a2 b1 b2 e1 e2
  go_enter Tryd.func16, Tryd.ntmps16
  go_wp2_with fail
  refine (may21_lit c true Hm.out _ _ _ _ _ Hst0.out.r).mono ?_
  rintro e w1 ⟨rfl, hb⟩
  have Hst1 := Lib.hid (Hst0.out.step hb)
  clear hb Hst0
  obtain ⟨c0, c1, c2, c3, c4, c5, c6, c7, c8⟩ := Hst1.out.cells
  rw [Hf.out] at c5
  have hz : w.heap.size < w1.heap.size := World.block_lt_of_cell? w1 ⟨w.heap.size, 0, none⟩ c0
  go_wp2_with (at_builtin; refine wpList_app _ rfl (.tmp 63) (.tmp 65) 23 rfl w1.heap.size 22 i0 _ 1 8 Tryd.underlying23 hi0 hz0 hz1 hz2 rfl (by omega) _ 2 2 [.int .u64 v14, .int .u64 (c.x : Int)] rfl (World.ownsRow_lit _ _ _ (Nat.le_refl _) (by decide) rfl) _ _ _ (u64s c.words) rfl (by simp [u64s_length]) (Hst1.out.alloc _).r.1 (u64s_one _) (by unfold maxLen; omega) (by omega) (by simp) ?_; intro A3 cap3 w3 hown hgr hb3)
  have hb13 : Below w1.heap.size w1 w3 := ((Below.refl _ _).alloc (Nat.le_refl _) _).trans hb3
  have hown3 : w3.ownsRow w1.heap.size 22 1 (.slice A3 (2 + c.words.length) cap3) (2 + c.words.length) (u64s (headC c :: c.x :: c.words)) := by
    rw [HX.out] at hown
    exact hown
  have Hb3 := Lib.hid hb13
  have Hown := Lib.hid hown3
  clear hown hown3 hgr hb3 hb13 c0 c1 c2 c3 c4 c5 c6 c7 c8
  go_loopw [4, 5] (fun v i wr => ∃ (k : Nat) (A' : Option Addr) (cap' : Nat), k ≤ c.items.length ∧ i = .int .i64 k ∧ v = .slice A' (2 + c.words.length + k) cap' ∧
      wr.ownsRow w1.heap.size 22 1 (.slice A' (2 + c.words.length + k) cap') (2 + c.words.length + k) (u64s (headC c :: c.x :: (c.words ++ (c.items.take k).map codeI))) ∧ Below w1.heap.size w1 wr)
    (fun _ i _ => c.items.length - (intOf i).toNat)
  case atStart => exact ⟨0, A3, cap3, Nat.zero_le _, rfl, rfl, by simpa using Hown.out, Hb3.out⟩
  case round =>
    obtain ⟨k, A', cap', hk, rfl, rfl, hownr, hbr⟩ := hrel
    have Hownr := Lib.hid hownr
    have Hbr := Lib.hid hbr
    have Hstr := Lib.hid (Hst1.out.step hbr)
    clear hownr hbr
    obtain ⟨c0, c1, c2, c3, c4, c5, c6, c7, c8⟩ := Hstr.out.cells
    clear c0 c1 c2 c3 c4 c5 c6 c7
    by_cases hlt : k < c.items.length
    · obtain ⟨b, off, rfl, hbb, q0, q1, q2, q3, q4⟩ := Hstr.out.r.2.1.item hlt
      have hmi : mayI c.items[k] = true := Hit.out _ (List.getElem_mem hlt)
      have hzr := Hbr.out.size
      go_wp2_with (first | (go_at_call 29; refine (Code14_yes c.items[k] hmi _).mono ?_; rintro e w5 ⟨rfl, hb5⟩; have hz5 : w1.heap.size ≤ w5.heap.size := Nat.le_trans hzr hb5.size) | (at_builtin; refine wpList_app _ rfl (.tmp 83) (.tmp 85) 23 rfl w1.heap.size 22 i0 _ 1 8 Tryd.underlying23 hi0 hz0 hz1 hz2 rfl (by omega) _ _ _ _ rfl ((ownsRow_below Hownr.out hb5).alloc _) _ 1 1 (u64s [codeI c.items[k]]) rfl rfl (SlR_new _ _ _) (u64s_one _) (by unfold maxLen; omega) (by omega) (by simp; omega) ?_; intro A7 cap7 w7 hown7 hgr7 hb7))
      have hb7' : Below w1.heap.size w1 w7 := (Hbr.out.trans (hb5.mono hzr)).trans (((Below.refl _ _).alloc hz5 _).trans hb7)
      have hown7' : w7.ownsRow w1.heap.size 22 1 (.slice A7 (2 + c.words.length + k + 1) cap7) (2 + c.words.length + k + 1) (u64s (headC c :: c.x :: (c.words ++ (c.items.take (k + 1)).map codeI))) := by
        rw [List.take_succ_eq_append_getElem hlt, List.map_append, ← List.append_assoc]
        simpa [u64s] using hown7
      have Hb7 := Lib.hid hb7'
      have Hown7 := Lib.hid hown7'
      clear hown7 hown7' hb7 hb7' hgr7 hb5
      go_wp2
      go_roundw
      case rel => exact ⟨k + 1, A7, cap7, by omega, by go_num, rfl, Hown7.out, Hb7.out⟩
      case measure => simp [intOf]; omega
    · have hk' : k = c.items.length := by omega
      have Hk := Lib.hid hk'
      clear hk'
      go_wp2
      go_ret
      have hlen : (encC c).length = 2 + c.words.length + k := by rw [encC_length c Hm.out, Hk.out]
      refine ⟨A', cap', by rw [hlen]; rfl, by rw [hlen]; exact ownsRow_le Hownr.out, ?_, Hstr.out.1⟩
      have := ownsRow_sl Hownr.out
      rw [Hk.out, List.take_length] at this
      rw [HE.out]
      exact this
theorem enc21_any (c : Cal) (A B : Option Addr) (cw ci : Nat) (w : World) (h : CallR w c A B) :
    Calls Tryd.prog 16 #[.agg #[.int .i64 c.op, .int .i64 c.slot, .int .i64 c.a, .int .i64 c.b, .int .i64 c.c, .bool c.flag, .int .u64 (c.x : Int), .slice A c.words.length cw, .slice B c.items.length ci]] w (EncPost w (encC c)) := by
  cases hm : mayC c
  · exact enc21_no c A B cw ci w h hm
  · rcases Bool.eq_false_or_eq_true c.flag with hf | hf
    · exact enc21_true c A B cw ci w h hm hf
    · exact enc21_false c A B cw ci w h hm hf
end Go.Proofs.YtmjkljgccaipoaaDoor
