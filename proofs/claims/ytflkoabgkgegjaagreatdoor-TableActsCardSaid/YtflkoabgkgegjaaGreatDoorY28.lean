/- The reference's lists of places: has, Same, cut, May, Many. Condition: the lists are read. And what follows from it. -/
import Derived.Test.YtflkoabgkgegjaaGreatDoorY11
import Derived.Test.YtflkoabgkgegjaaGreatDoorY23
/- The reference's lists of places: has, Same, cut, May, Many. Condition: the lists are read. -/
namespace Go.Proofs.YtflkoabgkgegjaaGreatDoor
open Go.RowKit Go.Maps

set_option maxRecDepth 100000 in
theorem has_r (L : List Int) (m : Nat) (hm : m = L.length) (hl : m ≤ 1073741824) (A : Option Addr) (ca : Nat) (x : Int) (r : Bool) (hr : r = true ↔ x ∈ L) (w : World) (hA : SlR w A (i64s L)) :
    Calls Tryz.prog 78 #[.slice A m ca, .int .i64 x] w fun e w' => e = .returned (.bool r) ∧ w' = w := by
  have HA := Lib.hid hA
  have HM := Lib.hid hm
  have HR := Lib.hid hr
  have HL := Lib.hid hl
  clear hA hm hr hl
  go_enter Tryz.func78, Tryz.ntmps78
  go_wp2
  go_loopw [5] (fun i wr => wr = w ∧ ∃ k : Nat, k ≤ m ∧ i = .int .i64 k ∧ ∀ j (h : j < L.length), j < k → L[j] ≠ x) (fun i _ => m - (intOf i).toNat)
  case atStart => exact ⟨rfl, 0, Nat.zero_le _, rfl, fun j h h2 => absurd h2 (Nat.not_lt_zero _)⟩
  case round =>
    obtain ⟨rfl, k, hk, rfl, hn⟩ := hrel
    have HN := Lib.hid hn
    by_cases hlt : k < m
    · have hkl : k < L.length := by rw [← HM.out]; exact hlt
      obtain ⟨b, off, rfl, hc⟩ := HA.out.int hkl
      obtain ⟨y, hy⟩ : ∃ y, L[k] = y := ⟨_, rfl⟩
      rw [hy] at hc
      have i0 : (0 : Int) ≤ (k : Int) := by omega
      have i1 : (k : Int) < (m : Int) := by omega
      have zk : IntKind.i64.wrap ((k : Int) + 1) = (k : Int) + 1 := by rw [IntKind.wrap_i64]; have := HL.out; omega
      by_cases q : y = x
      · have t1 : (y == x) = true := by simp [q]
        have hrt : r = true := HR.out.2 (by rw [← q, ← hy]; exact List.getElem_mem hkl)
        clear hn hy q hkl HR
        subst hrt
        go_wp2
        go_ret
        exact ⟨rfl, rfl⟩
      · have t1 : (y == x) = false := by simp [q]
        have HN2 : Hid (∀ j (h : j < L.length), j < k + 1 → L[j] ≠ x) := Lib.hid (fun j h h2 => by
          by_cases e : j = k
          · subst e; rw [hy]; exact q
          · exact HN.out j h (by omega))
        clear hn hy q hkl
        go_wp2
        go_roundw
        case rel => exact ⟨by first | rfl | trivial, k + 1, by omega, by go_num, HN2.out⟩
        case measure => (try simp [intOf]) <;> omega
    · have i1 : ¬ ((k : Int) < (m : Int)) := by omega
      have hrf : r = false := Bool.eq_false_iff.2 fun h => by
        obtain ⟨j, hj, e⟩ := List.getElem_of_mem (HR.out.1 h)
        exact HN.out j hj (by have := HM.out; omega) e
      clear hn HR
      subst hrf
      go_wp2
      go_ret
      exact ⟨rfl, rfl⟩
set_option maxRecDepth 100000 in
theorem same_i (L : List Int) (m : Nat) (hm : m = L.length) (hl : m ≤ 1073741824) (A B : Option Addr) (ca cb : Nat) (w : World) (hA : SlR w A (i64s L)) (hB : SlR w B (i64s L)) :
    Calls Tryz.prog 22 #[.slice A m ca, .slice B m cb] w fun e w' => e = .returned (.bool true) ∧ Below w.heap.size w w' := by
  have HA := Lib.hid hA
  have HB := Lib.hid hB
  have HM := Lib.hid hm
  have HL := Lib.hid hl
  clear hA hB hm hl
  go_enter Tryz.func22, Tryz.ntmps22
  go_wp2_with fail
  go_loopw [5] (fun i wr => ∃ k : Nat, k ≤ m ∧ i = .int .i64 k ∧ Below w.heap.size w wr) (fun i _ => m - (intOf i).toNat)
  case atStart => exact ⟨0, Nat.zero_le _, rfl, Below.refl _ _⟩
  case round =>
    obtain ⟨k, hk, rfl, hwr⟩ := hrel
    have Hwr := Lib.hid hwr
    by_cases hlt : k < m
    · have hkl : k < L.length := by rw [← HM.out]; exact hlt
      obtain ⟨b, off, rfl, q1⟩ := (HA.out.below hwr).int hkl
      obtain ⟨b2, off2, rfl, q3⟩ := (HB.out.below hwr).int hkl
      obtain ⟨x, hx⟩ : ∃ x : Int, L[k] = x := ⟨_, rfl⟩
      rw [hx] at q1 q3
      have rn : (x != x) = false := by simp
      have i1 : (0 : Int) ≤ (k : Int) := Int.natCast_nonneg _
      have i2 : (k : Int) < (m : Int) := by omega
      have zk : IntKind.i64.wrap ((k : Int) + 1) = (k : Int) + 1 := by rw [IntKind.wrap_i64]; have := HL.out; omega
      clear hwr hx hkl
      go_wp2_with fail
      go_quiet (fail)
      go_wp2
      go_roundw
      case rel => exact ⟨k + 1, by omega, by go_num, below_drewN Hwr.out nq⟩
      case measure => (try simp [intOf]) <;> omega
    · have q : ¬ ((k : Int) < (m : Int)) := by omega
      clear hwr
      go_wp2
      go_ret
      exact ⟨rfl, Hwr.out⟩
def cutL (L : List Int) (x : Int) : List Int := L.filter fun y => decide (y ≠ x)
set_option maxRecDepth 100000 in
set_option maxHeartbeats 1600000 in
theorem cut_i (L : List Int) (m : Nat) (hm : m = L.length) (hl : m ≤ 62914560) (A : Option Addr) (ca : Nat) (x : Int) (w : World) (hA : SlR w A (i64s L)) :
    Calls Tryz.prog 98 #[.slice A m ca, .int .i64 x] w fun e w' => ∃ A' m' k', e = .returned (.slice A' m' k') ∧ m' = (cutL L x).length ∧ w'.ownsRow w.heap.size 3 1 (.slice A' m' k') m' (i64s (cutL L x)) ∧ Below w.heap.size w w' := by
  obtain ⟨i0, hi0, hz0, hz1, hz2⟩ := info_parts info_int
  have HA := Lib.hid hA
  have HM := Lib.hid hm
  have HL := Lib.hid hl
  clear hA hm hl
  go_enter Tryz.func98, Tryz.ntmps98
  go_wp2
  go_loopw [5, 6] (fun s i wr => ∃ (k m1 : Nat) (A1 : Option Addr) (k1 : Nat), k ≤ m ∧ i = .int .i64 (k : Int) ∧ s = .slice A1 m1 k1 ∧ m1 = (cutL (L.take k) x).length ∧ wr.ownsRow w.heap.size 3 1 (.slice A1 m1 k1) m1 (i64s (cutL (L.take k) x)) ∧ Below w.heap.size w wr) (fun _ i _ => m - (intOf i).toNat)
  case atStart => exact ⟨0, 0, none, 0, Nat.zero_le _, rfl, rfl, rfl, World.ownsRow_nil _ _ _ _, Below.refl _ _⟩
  case round =>
    obtain ⟨k, m1, A1, k1, hk, rfl, rfl, hm1, ho, hwr⟩ := hrel
    have HO := Lib.hid ho
    have HWR := Lib.hid hwr
    have HM1 := Lib.hid hm1
    by_cases hlt : k < m
    · have hkl : k < L.length := by rw [← HM.out]; exact hlt
      obtain ⟨b, off, rfl, q1⟩ := (HA.out.below hwr).int hkl
      obtain ⟨y, hy⟩ : ∃ y : Int, L[k] = y := ⟨_, rfl⟩
      rw [hy] at q1
      have hle : m1 ≤ k := by
        rw [hm1]
        refine Nat.le_trans (List.length_filter_le _ _) ?_
        rw [List.length_take]; omega
      have HLE := Lib.hid hle
      have htk : L.take (k + 1) = L.take k ++ [y] := by rw [List.take_add_one, List.getElem?_eq_getElem hkl, hy]; rfl
      have i1 : (0 : Int) ≤ (k : Int) := Int.natCast_nonneg _
      have i2 : (k : Int) < (m : Int) := by omega
      have zk : IntKind.i64.wrap ((k : Int) + 1) = (k : Int) + 1 := by rw [IntKind.wrap_i64]; have := HL.out; omega
      by_cases q : y = x
      · have t1 : (y != x) = false := by simp [q]
        have HC : Hid (cutL (L.take (k + 1)) x = cutL (L.take k) x) := Lib.hid (by rw [htk]; simp [cutL, q])
        clear hwr hy hkl q htk hle ho hm1
        go_wp2
        go_roundw
        case rel => exact ⟨k + 1, m1, A1, k1, by omega, by go_num, rfl, by rw [HC.out]; exact HM1.out, by rw [HC.out]; exact HO.out, HWR.out⟩
        case measure => (try simp [intOf]) <;> omega
      · have t1 : (y != x) = true := by simp [q]
        have HC : Hid (cutL (L.take (k + 1)) x = cutL (L.take k) x ++ [y]) := Lib.hid (by rw [htk]; simp [cutL, q])
        have HCI : Hid (i64s (cutL (L.take k) x) ++ i64s [y] = i64s (cutL (L.take (k + 1)) x)) := Lib.hid (by rw [HC.out, i64s, i64s, i64s, List.map_append])
        have HOA := Lib.hid (ownsRow_below ho ((Below.refl _ wr).alloc (Nat.le_refl _) (.cells #[.int .i64 y] 3)))
        have HBA : Hid (w.heap.size ≤ (wr.alloc (.cells #[.int .i64 y] 3)).heap.size) := Lib.hid (by rw [World.size_alloc]; have := hwr.size; omega)
        clear hwr hy hkl q htk hle ho hm1
        go_wp2_with (first | (at_builtin; refine wpList_app _ rfl (.tmp 19) (.tmp 24) 24 rfl w.heap.size 3 i0 _ 1 8 Tryz.underlying24 hi0 hz0 hz1 hz2 rfl (by omega) A1 m1 k1 _ rfl HOA.out (some ⟨wr.heap.size, 0, none⟩) 1 1 (i64s [y]) rfl (by rfl) (SlR_new _ _ _) (i64s_one _) (by have := HL.out; have := HLE.out; unfold maxLen; omega) (by have := HL.out; have := HLE.out; omega) HBA.out ?_; intro A8 k8 w8 hown8 hg8 hb8))
        rw [HCI.out] at hown8
        have HO8 := Lib.hid hown8
        have HB8 := Lib.hid ((HWR.out.alloc HWR.out.size _).trans hb8)
        clear hown8 hg8 hb8
        go_wp2
        go_roundw
        case rel => exact ⟨k + 1, m1 + 1, A8, k8, by omega, by go_num, rfl, by rw [HC.out, List.length_append, ← HM1.out]; rfl, HO8.out, HB8.out⟩
        case measure => (try simp [intOf]) <;> omega
    · have q : ¬ ((k : Int) < (m : Int)) := by omega
      have e : L.take k = L := List.take_of_length_le (by have := HM.out; omega)
      rw [e] at HO HM1
      clear hwr ho hm1 e
      go_wp2
      go_ret
      exact ⟨A1, m1, k1, rfl, HM1.out, HO.out, HWR.out⟩
end Go.Proofs.YtflkoabgkgegjaaGreatDoor
/- The reference's put on lists of places. Condition: the list is read. -/
namespace Go.Proofs.YtflkoabgkgegjaaGreatDoor
open Go.RowKit Go.Maps

def PutI (L : List Int) (x : Int) (L' : List Int) : Prop := ∃ k, k ≤ L.length ∧ L' = L.take k ++ x :: L.drop k ∧ (∀ j (hj : j < L.length), k ≤ j → x < L[j]) ∧ (k = 0 ∨ ∃ h : k - 1 < L.length, L[k - 1] ≤ x)
theorem i64s_take (L : List Int) (i : Nat) : i64s (L.take i) = (i64s L).take i := by simp [i64s, List.map_take]
theorem i64s_drop (L : List Int) (i : Nat) : i64s (L.drop i) = (i64s L).drop i := by simp [i64s, List.map_drop]
theorem i64s_app (L M : List Int) : i64s (L ++ M) = i64s L ++ i64s M := by simp [i64s]
theorem info_int2 : ∃ i, Tryz.prog.info? 3 = some i ∧ i.size = 1 := by
  obtain ⟨i, h1, _, h2, _⟩ := info_parts info_int
  exact ⟨i, h1, h2⟩
/-- the numbers ahead of a place -/
theorem sliceI_hi (A : Option Addr) (m ca i : Nat) (I : Int) (hI : I = (i : Int)) (hi : i ≤ ca) : ∃ A1, (∀ w, (Instr.slice 24 (.slice A m ca) none (some (.int .i64 I)) none).run Tryz.prog w = .ok (.slice A1 i ca) w) ∧ ∀ w L, SlR w A (i64s L) → SlR w A1 (i64s (L.take i)) := by
  subst hI
  obtain ⟨q, hq, hs⟩ := info_int2
  have e1 : Tryz.prog.elem 24 = 3 := by simp [Program.elem, Tryz.underlying24]
  refine ⟨if ca = 0 then A else A.map (·.add 0), fun w => ?_, fun w L h => ?_⟩
  · rw [run_slice_h (P := Tryz.prog) (w := w) (t := 24) (a := A) (len := m) (cap := ca) (ht := by rw [e1]; exact Tryz.underlying24) .i64 (i : Int) (by omega) (by omega)]
    simp [sizeOf, typeInfo, e1, hq, hs, sliced, Result.andThen]
  · intro hne
    rw [i64s_take] at hne
    obtain ⟨b, off, rfl, hlt, hc⟩ := h (by rintro e; rw [e] at hne; simp at hne)
    refine ⟨b, off, ?_, hlt, fun j u hu => hc j u ?_⟩
    · split
      · rfl
      · simp [add_plain]
    · rw [i64s_take, List.getElem?_take] at hu
      split at hu
      · exact hu
      · cases hu
/-- the numbers from a place on -/
theorem sliceI_lo (A : Option Addr) (m ca i : Nat) (I : Int) (hI : I = (i : Int)) (hi : i ≤ m) (hm : m ≤ ca) : ∃ A1, (∀ w, (Instr.slice 24 (.slice A m ca) (some (.int .i64 I)) none none).run Tryz.prog w = .ok (.slice A1 (m - i) (ca - i)) w) ∧ ∀ w L, L.length = m → SlR w A (i64s L) → SlR w A1 (i64s (L.drop i)) := by
  subst hI
  obtain ⟨q, hq, hs⟩ := info_int2
  have e1 : Tryz.prog.elem 24 = 3 := by simp [Program.elem, Tryz.underlying24]
  refine ⟨if ca = i then A else A.map (·.add i), fun w => ?_, fun w L hL h => ?_⟩
  · rw [run_slice_l (P := Tryz.prog) (w := w) (t := 24) (a := A) (len := m) (cap := ca) (ht := by rw [e1]; exact Tryz.underlying24) .i64 (i : Int) (by omega) (by omega)]
    simp [sizeOf, typeInfo, e1, hq, hs, sliced, Result.andThen]
  · intro hne
    have hlen := i64s_length (L.drop i)
    rw [List.length_drop] at hlen
    have hlt2 : i < L.length := by
      rcases Nat.lt_or_ge i L.length with h1 | h1
      · exact h1
      · exfalso
        apply hne
        exact List.eq_nil_of_length_eq_zero (by omega)
    rw [i64s_drop] at hne
    obtain ⟨b, off, rfl, hlt, hc⟩ := h (by rintro e; rw [e] at hne; simp at hne)
    refine ⟨b, off + i, ?_, hlt, fun j u hu => ?_⟩
    · rw [if_neg (by omega)]
      simp [add_plain]
    · rw [i64s_drop, List.getElem?_drop] at hu
      have := hc _ _ hu
      rwa [Nat.add_assoc]
theorem litI2 {base : Nat} (wq : World) (o : Obj) (h : base ≤ wq.heap.size) : ((wq.alloc o).alloc (.cells #[] 3)).ownsRow base 3 1 (.slice (some ⟨wq.heap.size + 1, 0, none⟩) 0 0) 0 [] := by
  have h1 := World.ownsRow_lit (base := base) (e := 3) (size := 1) (wq.alloc o) #[] 0 (by rw [World.size_alloc]; omega) (by decide) rfl
  rw [World.size_alloc] at h1
  exact h1
/-- the one number in a row of its own -/
theorem one_new (wq : World) (o : Obj) (x : Int) : SlR ((wq.alloc o).alloc (.cells #[.int .i64 x] 3)).drew (some ⟨wq.heap.size + 1, 0, none⟩) (i64s [x]) := by
  have := SlR_new (wq.alloc o) #[.int .i64 x] 3
  rw [World.size_alloc] at this
  exact this.below (Below.refl _ _).drew
theorem one_new0 (wq : World) (o : Obj) (x : Int) : SlR ((wq.alloc (.cells #[.int .i64 x] 3)).alloc o).drew (some ⟨wq.heap.size, 0, none⟩) (i64s [x]) :=
  ((SlR_new wq #[.int .i64 x] 3).below ((Below.refl _ _).alloc (Nat.le_refl _) _)).below (Below.refl _ _).drew
set_option maxRecDepth 100000 in
set_option maxHeartbeats 3200000 in
theorem put_i (L : List Int) (m : Nat) (hm : m = L.length) (hl : m ≤ 62914560) (A : Option Addr) (ca : Nat) (hca : m ≤ ca) (x : Int) (w : World) (hA : SlR w A (i64s L)) :
    Calls Tryz.prog 79 #[.slice A m ca, .int .i64 x] w fun e w' => ∃ A' c' L', e = .returned (.slice A' (m + 1) c') ∧ PutI L x L' ∧ w'.ownsRow w.heap.size 3 1 (.slice A' (m + 1) c') (m + 1) (i64s L') ∧ Below w.heap.size w w' := by
  obtain ⟨i0, hi0, hz0, hz1, hz2⟩ := info_parts info_int
  have HA := Lib.hid hA
  have HM := Lib.hid hm
  have HL := Lib.hid hl
  have HCA := Lib.hid hca
  clear hA hm hl hca
  go_enter Tryz.func79, Tryz.ntmps79
  go_wp2
  go_loopw [5] (fun a wr => wr = w ∧ ∃ k : Nat, k ≤ m ∧ a = .int .i64 (k : Int) ∧ (∀ j (hj : j < L.length), k ≤ j → x < L[j])) (fun a _ => (intOf a).toNat)
  case atStart => exact ⟨rfl, m, Nat.le_refl _, rfl, fun j hj hk => absurd hj (by have := HM.out; omega)⟩
  case round =>
    obtain ⟨rfl, k, hk, rfl, hn⟩ := hrel
    have HNo := Lib.hid hn
    have KM : Hid (k ≤ m ∧ m ≤ 62914560) := Lib.hid ⟨hk, HL.out⟩
    by_cases hgo : 0 < k ∧ ∃ h : k - 1 < L.length, x < L[k - 1]
    · obtain ⟨hk0, hlt, hx⟩ := hgo
      obtain ⟨k', hk'⟩ : ∃ k', k = k' + 1 := ⟨k - 1, by omega⟩
      subst hk'
      simp only [Nat.add_sub_cancel] at hlt hx
      obtain ⟨b, off, rfl, q1⟩ := HA.out.int hlt
      obtain ⟨y, hy⟩ : ∃ y : Int, L[k'] = y := ⟨_, rfl⟩
      rw [hy] at q1 hx
      have i1 : decide ((0 : Int) < ((k' + 1 : Nat) : Int)) = true := decide_eq_true (by omega)
      have i1' : (0 : Int) < ((k' + 1 : Nat) : Int) := by omega
      have i2 : (0 : Int) ≤ (k' : Int) := by omega
      have i3 : (k' : Int) < (m : Int) := by omega
      have zk : IntKind.i64.wrap (((k' + 1 : Nat) : Int) - 1) = (k' : Int) := by rw [IntKind.wrap_i64]; have := HL.out; omega
      have t1 : decide (x < y) = true := decide_eq_true hx
      have HN2 : Hid (∀ j (hj : j < L.length), k' ≤ j → x < L[j]) := Lib.hid (fun j hj hjk => by
        by_cases e : j = k'
        · subst e; rw [hy]; exact hx
        · exact HNo.out j hj (by omega))
      obtain ⟨K1, hK1⟩ : ∃ K1 : Int, ((k' + 1 : Nat) : Int) = K1 := ⟨_, rfl⟩
      rw [hK1] at i1 i1' zk
      have HK1 := Lib.hid hK1
      rw [hK1]
      clear hn hk hk0 hlt hx hy hK1
      go_wp2
      go_roundw
      case rel => exact ⟨by first | rfl | trivial, k', by have := KM.out; omega, rfl, HN2.out⟩
      case measure => have := HK1.out; (try simp [intOf]) <;> omega
    · have HE : Hid (k = 0 ∨ ∃ h : k - 1 < L.length, L[k - 1] ≤ x) := Lib.hid (by
        by_cases e : k = 0
        · exact .inl e
        · right
          have hlt : k - 1 < L.length := by have := HM.out; omega
          refine ⟨hlt, ?_⟩
          by_cases h : x < L[k - 1]
          · exact absurd ⟨by omega, hlt, h⟩ hgo
          · omega)
      have key : (decide ((0 : Int) < (k : Int)) = false) ∨ (decide ((0 : Int) < (k : Int)) = true ∧ ∃ (b off k' : Nat) (y : Int), A = some ⟨b, off, none⟩ ∧ wr.cell? ⟨b, off + k', none⟩ = some (.int .i64 y) ∧ k = k' + 1 ∧ decide (x < y) = false) := by
        by_cases e : 0 < k
        · right
          rcases HE.out with h0 | ⟨hlt, hle⟩
          · omega
          · obtain ⟨b, off, hA, hc⟩ := HA.out.int hlt
            exact ⟨decide_eq_true (by omega), b, off, k - 1, L[k - 1], hA, hc, by omega, decide_eq_false (by omega)⟩
        · exact .inl (decide_eq_false (by omega))
      have HY : Hid (Below wr.heap.size wr (wr.alloc (.cells #[] 3)).drew) := Lib.hid ((Below.refl _ wr).alloc (Nat.le_refl _) _).drew
      have HZ : Hid (Below wr.heap.size wr ((wr.alloc (.cells #[] 3)).alloc (.cells #[.int .i64 x] 3)).drew) := Lib.hid (((Below.refl _ wr).alloc (Nat.le_refl _) _).alloc (by simp) _).drew
      have HC0 : Hid (Below wr.heap.size wr ((wr.alloc (.cells #[.int .i64 x] 3)).alloc (.cells #[] 3)).drew) := Lib.hid (((Below.refl _ wr).alloc (Nat.le_refl _) _).alloc (by simp) _).drew
      obtain ⟨A1, hs1, hr1⟩ := sliceI_hi A m ca k (k : Int) rfl (by have := HCA.out; omega)
      obtain ⟨A2, hs2, hr2⟩ := sliceI_lo A m ca k (k : Int) rfl hk HCA.out
      have HR1 := Lib.hid (hr1 _ _ HA.out)
      have HR2 := Lib.hid (hr2 _ _ HM.out.symm HA.out)
      have LT : Hid ((i64s (L.take k)).length = k * 1) := Lib.hid (by rw [i64s_length, List.length_take]; have := HM.out; omega)
      have LD : Hid ((i64s (L.drop k)).length = (m - k) * 1) := Lib.hid (by rw [i64s_length, List.length_drop, HM.out, Nat.mul_one])
      have k00 : (0 : Int) ≤ (k : Int) := by omega
      clear hr1 hr2 hn hgo
      obtain ⟨K1, hK1⟩ : ∃ K1 : Int, (k : Int) = K1 := ⟨_, rfl⟩
      rcases key with t1 | ⟨t1, b, off, k', y, hAe, q1, hkk, t2⟩
      · have i1' : ¬ (0 : Int) < K1 := by have := of_decide_eq_false t1; rw [hK1] at this; exact this
        have HK0 := Lib.hid hK1
        rw [hK1] at t1 hs1 hs2 k00
        rw [hK1]
        clear hK1 hk
        go_wp2
        go_region_law (first | ((refine step_app _ rfl (.tmp 21) (.tmp 24) 24 rfl wr.heap.size 3 i0 _ 1 8 Tryz.underlying24 hi0 hz0 hz1 hz2 rfl (by omega) (some ⟨wr.heap.size, 0, none⟩) 0 0 [] (by simp [Act.eval, Act.put]) (ownsRow_below (World.ownsRow_lit wr #[] 0 (Nat.le_refl _) (by decide) rfl) (Below.refl _ _).drew) A1 k ca (i64s (L.take k)) (by simp [Act.eval, Act.put]) LT.out (HR1.out.below HY.out) (i64s_one _) (by have := KM.out; unfold maxLen; omega) (by have := KM.out; omega) HY.out.size ?_); intro A3 k3 w3 hown3 hgr3 hb3; have HB3 : Hid (Below wr.heap.size wr w3) := Lib.hid (HY.out.trans hb3)) | ((refine step_app _ rfl (.tmp 21) (.tmp 24) 24 rfl wr.heap.size 3 i0 _ 1 8 Tryz.underlying24 hi0 hz0 hz1 hz2 rfl (by omega) (some ⟨wr.heap.size, 0, none⟩) 0 0 [] (by simp [Act.eval, Act.put]) (ownsRow_below (World.ownsRow_lit wr #[] 0 (Nat.le_refl _) (by decide) rfl) ((Below.refl _ _).alloc (Nat.le_refl _) _).drew) A1 k ca (i64s (L.take k)) (by simp [Act.eval, Act.put]) LT.out (HR1.out.below HZ.out) (i64s_one _) (by have := KM.out; unfold maxLen; omega) (by have := KM.out; omega) HZ.out.size ?_); intro A3 k3 w3 hown3 hgr3 hb3; have HB3 : Hid (Below wr.heap.size wr w3) := Lib.hid (HZ.out.trans hb3); have HX3 : Hid (SlR w3 (some ⟨wr.heap.size + 1, 0, none⟩) (i64s [x])) := Lib.hid ((one_new wr (.cells #[] 3) x).grown hgr3 (fun a e => by cases e; exact Nat.succ_ne_self _))) | ((refine step_app _ rfl (.tmp 21) (.tmp 24) 24 rfl wr.heap.size 3 i0 _ 1 8 Tryz.underlying24 hi0 hz0 hz1 hz2 rfl (by omega) (some ⟨wr.heap.size + 1, 0, none⟩) 0 0 [] (by simp [Act.eval, Act.put]) (ownsRow_below (litI2 wr _ (Nat.le_refl _)) (Below.refl _ _).drew) A1 k ca (i64s (L.take k)) (by simp [Act.eval, Act.put]) LT.out (HR1.out.below HC0.out) (i64s_one _) (by have := KM.out; unfold maxLen; omega) (by have := KM.out; omega) HC0.out.size ?_); intro A3 k3 w3 hown3 hgr3 hb3; have HB3 : Hid (Below wr.heap.size wr w3) := Lib.hid (HC0.out.trans hb3); have HX3 : Hid (SlR w3 (some ⟨wr.heap.size, 0, none⟩) (i64s [x])) := Lib.hid ((one_new0 wr (.cells #[] 3) x).grown hgr3 (fun a e => by cases e; exact (Nat.succ_ne_self _).symm))) | ((refine step_app _ rfl (.tmp 25) (.tmp 27) 24 rfl wr.heap.size 3 i0 _ 1 8 Tryz.underlying24 hi0 hz0 hz1 hz2 rfl (by omega) A3 (0 + k) k3 _ (by simp [Act.eval, Act.put]) (ownsRow_below hown3 ((Below.refl _ _).alloc (Nat.le_refl _) _)) (some ⟨w3.heap.size, 0, none⟩) 1 1 (i64s [x]) (by simp [Act.eval, Act.put]) (by rfl) (SlR_new w3 _ _) (i64s_one _) (by have := KM.out; unfold maxLen; omega) (by have := KM.out; omega) (HB3.out.alloc HB3.out.size _).size ?_); intro A4 k4 w4 hown4 hgr4 hb4; have HB4 : Hid (Below wr.heap.size wr w4) := Lib.hid ((HB3.out.alloc HB3.out.size _).trans hb4)) | ((refine step_app _ rfl (.tmp 25) (.tmp 27) 24 rfl wr.heap.size 3 i0 _ 1 8 Tryz.underlying24 hi0 hz0 hz1 hz2 rfl (by omega) A3 (0 + k) k3 _ (by simp [Act.eval, Act.put]) hown3 (some ⟨wr.heap.size + 1, 0, none⟩) 1 1 (i64s [x]) (by simp [Act.eval, Act.put]) (by rfl) HX3.out (i64s_one _) (by have := KM.out; unfold maxLen; omega) (by have := KM.out; omega) HB3.out.size ?_); intro A4 k4 w4 hown4 hgr4 hb4; have HB4 : Hid (Below wr.heap.size wr w4) := Lib.hid (HB3.out.trans hb4)) | ((refine step_app _ rfl (.tmp 25) (.tmp 27) 24 rfl wr.heap.size 3 i0 _ 1 8 Tryz.underlying24 hi0 hz0 hz1 hz2 rfl (by omega) A3 (0 + k) k3 _ (by simp [Act.eval, Act.put]) hown3 (some ⟨wr.heap.size, 0, none⟩) 1 1 (i64s [x]) (by simp [Act.eval, Act.put]) (by rfl) HX3.out (i64s_one _) (by have := KM.out; unfold maxLen; omega) (by have := KM.out; omega) HB3.out.size ?_); intro A4 k4 w4 hown4 hgr4 hb4; have HB4 : Hid (Below wr.heap.size wr w4) := Lib.hid (HB3.out.trans hb4)) | ((refine step_app _ rfl (.tmp 28) (.tmp 31) 24 rfl wr.heap.size 3 i0 _ 1 8 Tryz.underlying24 hi0 hz0 hz1 hz2 rfl (by omega) A4 (0 + k + 1) k4 _ (by simp [Act.eval, Act.put]) hown4 A2 (m - k) (ca - k) (i64s (L.drop k)) (by simp [Act.eval, Act.put]) LD.out (HR2.out.below HB4.out) (i64s_one _) (by have := KM.out; unfold maxLen; omega) (by have := KM.out; omega) HB4.out.size ?_); intro A5 k5 w5 hown5 hgr5 hb5))
        all_goals
          have HO : Hid (w5.ownsRow wr.heap.size 3 1 (.slice A5 (m + 1) k5) (m + 1) (i64s (L.take k ++ x :: L.drop k))) := Lib.hid (by
            rw [show L.take k ++ x :: L.drop k = (L.take k ++ [x]) ++ L.drop k by simp, i64s_app, i64s_app]
            have e : 0 + k + 1 + (m - k) = m + 1 := by have := KM.out; omega
            rw [← e]
            exact hown5)
          have HBE : Hid (Below wr.heap.size wr w5) := Lib.hid (HB4.out.trans hb5)
          have HC : Hid (0 + k + 1 + (m - k) = m + 1) := Lib.hid (by have := KM.out; omega)
          have HP : Hid (PutI L x (L.take k ++ x :: L.drop k)) := Lib.hid ⟨k, by have := KM.out; have := HM.out; omega, rfl, HNo.out, HE.out⟩
          clear hown3 hgr3 hb3 hown4 hgr4 hb4 hown5 hgr5 hb5
          go_wp2
          go_ret
          exact ⟨A5, k5, _, (by have hq := HC.out; first | exact Eq.trans (b := .returned (.slice A5 (0 + k + 1 + (m - k)) k5)) rfl (by rw [hq]) | exact Eq.trans (b := .returned (.slice A5 (k + 1 + (m - k)) k5)) rfl (by rw [Nat.zero_add] at hq; rw [hq])), HP.out, HO.out, HBE.out⟩
      · have zk : IntKind.i64.wrap ((k : Int) - 1) = (k' : Int) := by rw [IntKind.wrap_i64]; have := HL.out; omega
        have i2 : (0 : Int) ≤ (k' : Int) := by omega
        have i3 : (k' : Int) < (m : Int) := by omega
        have i1' : (0 : Int) < (k : Int) := by omega
        subst hAe
        clear hK1 hk hkk
        go_wp2_with fail
        go_region_law (first | ((refine step_app _ rfl (.tmp 21) (.tmp 24) 24 rfl wr.heap.size 3 i0 _ 1 8 Tryz.underlying24 hi0 hz0 hz1 hz2 rfl (by omega) (some ⟨wr.heap.size, 0, none⟩) 0 0 [] (by simp [Act.eval, Act.put]) (ownsRow_below (World.ownsRow_lit wr #[] 0 (Nat.le_refl _) (by decide) rfl) (Below.refl _ _).drew) A1 k ca (i64s (L.take k)) (by simp [Act.eval, Act.put]) LT.out (HR1.out.below HY.out) (i64s_one _) (by have := KM.out; unfold maxLen; omega) (by have := KM.out; omega) HY.out.size ?_); intro A3 k3 w3 hown3 hgr3 hb3; have HB3 : Hid (Below wr.heap.size wr w3) := Lib.hid (HY.out.trans hb3)) | ((refine step_app _ rfl (.tmp 21) (.tmp 24) 24 rfl wr.heap.size 3 i0 _ 1 8 Tryz.underlying24 hi0 hz0 hz1 hz2 rfl (by omega) (some ⟨wr.heap.size, 0, none⟩) 0 0 [] (by simp [Act.eval, Act.put]) (ownsRow_below (World.ownsRow_lit wr #[] 0 (Nat.le_refl _) (by decide) rfl) ((Below.refl _ _).alloc (Nat.le_refl _) _).drew) A1 k ca (i64s (L.take k)) (by simp [Act.eval, Act.put]) LT.out (HR1.out.below HZ.out) (i64s_one _) (by have := KM.out; unfold maxLen; omega) (by have := KM.out; omega) HZ.out.size ?_); intro A3 k3 w3 hown3 hgr3 hb3; have HB3 : Hid (Below wr.heap.size wr w3) := Lib.hid (HZ.out.trans hb3); have HX3 : Hid (SlR w3 (some ⟨wr.heap.size + 1, 0, none⟩) (i64s [x])) := Lib.hid ((one_new wr (.cells #[] 3) x).grown hgr3 (fun a e => by cases e; exact Nat.succ_ne_self _))) | ((refine step_app _ rfl (.tmp 21) (.tmp 24) 24 rfl wr.heap.size 3 i0 _ 1 8 Tryz.underlying24 hi0 hz0 hz1 hz2 rfl (by omega) (some ⟨wr.heap.size + 1, 0, none⟩) 0 0 [] (by simp [Act.eval, Act.put]) (ownsRow_below (litI2 wr _ (Nat.le_refl _)) (Below.refl _ _).drew) A1 k ca (i64s (L.take k)) (by simp [Act.eval, Act.put]) LT.out (HR1.out.below HC0.out) (i64s_one _) (by have := KM.out; unfold maxLen; omega) (by have := KM.out; omega) HC0.out.size ?_); intro A3 k3 w3 hown3 hgr3 hb3; have HB3 : Hid (Below wr.heap.size wr w3) := Lib.hid (HC0.out.trans hb3); have HX3 : Hid (SlR w3 (some ⟨wr.heap.size, 0, none⟩) (i64s [x])) := Lib.hid ((one_new0 wr (.cells #[] 3) x).grown hgr3 (fun a e => by cases e; exact (Nat.succ_ne_self _).symm))) | ((refine step_app _ rfl (.tmp 25) (.tmp 27) 24 rfl wr.heap.size 3 i0 _ 1 8 Tryz.underlying24 hi0 hz0 hz1 hz2 rfl (by omega) A3 (0 + k) k3 _ (by simp [Act.eval, Act.put]) (ownsRow_below hown3 ((Below.refl _ _).alloc (Nat.le_refl _) _)) (some ⟨w3.heap.size, 0, none⟩) 1 1 (i64s [x]) (by simp [Act.eval, Act.put]) (by rfl) (SlR_new w3 _ _) (i64s_one _) (by have := KM.out; unfold maxLen; omega) (by have := KM.out; omega) (HB3.out.alloc HB3.out.size _).size ?_); intro A4 k4 w4 hown4 hgr4 hb4; have HB4 : Hid (Below wr.heap.size wr w4) := Lib.hid ((HB3.out.alloc HB3.out.size _).trans hb4)) | ((refine step_app _ rfl (.tmp 25) (.tmp 27) 24 rfl wr.heap.size 3 i0 _ 1 8 Tryz.underlying24 hi0 hz0 hz1 hz2 rfl (by omega) A3 (0 + k) k3 _ (by simp [Act.eval, Act.put]) hown3 (some ⟨wr.heap.size + 1, 0, none⟩) 1 1 (i64s [x]) (by simp [Act.eval, Act.put]) (by rfl) HX3.out (i64s_one _) (by have := KM.out; unfold maxLen; omega) (by have := KM.out; omega) HB3.out.size ?_); intro A4 k4 w4 hown4 hgr4 hb4; have HB4 : Hid (Below wr.heap.size wr w4) := Lib.hid (HB3.out.trans hb4)) | ((refine step_app _ rfl (.tmp 25) (.tmp 27) 24 rfl wr.heap.size 3 i0 _ 1 8 Tryz.underlying24 hi0 hz0 hz1 hz2 rfl (by omega) A3 (0 + k) k3 _ (by simp [Act.eval, Act.put]) hown3 (some ⟨wr.heap.size, 0, none⟩) 1 1 (i64s [x]) (by simp [Act.eval, Act.put]) (by rfl) HX3.out (i64s_one _) (by have := KM.out; unfold maxLen; omega) (by have := KM.out; omega) HB3.out.size ?_); intro A4 k4 w4 hown4 hgr4 hb4; have HB4 : Hid (Below wr.heap.size wr w4) := Lib.hid (HB3.out.trans hb4)) | ((refine step_app _ rfl (.tmp 28) (.tmp 31) 24 rfl wr.heap.size 3 i0 _ 1 8 Tryz.underlying24 hi0 hz0 hz1 hz2 rfl (by omega) A4 (0 + k + 1) k4 _ (by simp [Act.eval, Act.put]) hown4 A2 (m - k) (ca - k) (i64s (L.drop k)) (by simp [Act.eval, Act.put]) LD.out (HR2.out.below HB4.out) (i64s_one _) (by have := KM.out; unfold maxLen; omega) (by have := KM.out; omega) HB4.out.size ?_); intro A5 k5 w5 hown5 hgr5 hb5))
        all_goals
          have HO : Hid (w5.ownsRow wr.heap.size 3 1 (.slice A5 (m + 1) k5) (m + 1) (i64s (L.take k ++ x :: L.drop k))) := Lib.hid (by
            rw [show L.take k ++ x :: L.drop k = (L.take k ++ [x]) ++ L.drop k by simp, i64s_app, i64s_app]
            have e : 0 + k + 1 + (m - k) = m + 1 := by have := KM.out; omega
            rw [← e]
            exact hown5)
          have HBE : Hid (Below wr.heap.size wr w5) := Lib.hid (HB4.out.trans hb5)
          have HC : Hid (0 + k + 1 + (m - k) = m + 1) := Lib.hid (by have := KM.out; omega)
          have HP : Hid (PutI L x (L.take k ++ x :: L.drop k)) := Lib.hid ⟨k, by have := KM.out; have := HM.out; omega, rfl, HNo.out, HE.out⟩
          clear hown3 hgr3 hb3 hown4 hgr4 hb4 hown5 hgr5 hb5
          go_wp2
          go_ret
          exact ⟨A5, k5, _, (by have hq := HC.out; first | exact Eq.trans (b := .returned (.slice A5 (0 + k + 1 + (m - k)) k5)) rfl (by rw [hq]) | exact Eq.trans (b := .returned (.slice A5 (k + 1 + (m - k)) k5)) rfl (by rw [Nat.zero_add] at hq; rw [hq])), HP.out, HO.out, HBE.out⟩
end Go.Proofs.YtflkoabgkgegjaaGreatDoor
