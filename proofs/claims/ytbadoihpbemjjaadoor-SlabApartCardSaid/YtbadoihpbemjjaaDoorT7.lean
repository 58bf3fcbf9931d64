/- Slabs: where slabs begin. Condition: the cache's state. -/
import Derived.Test.YtbadoihpbemjjaaDoorT6
namespace Go.Proofs.YtbadoihpbemjjaaDoor
open Go.RowKit Go.Maps
variable {W w w' : World} {K : List (Nat × Obj)} {c b size M top : Nat} {gm gw : Nat → Nat} {mu n : Nat} {l : List Tl} {A : Option Addr} {cap : Nat} {P : List Pg}

theorem info_int : (Tryd.prog.info? 3).map (fun i => (i.zero, i.size, i.bytes)) = some (some (.int .i64 0), 1, 8) := by kernel_rfl
theorem i64s_one (L : List Int) : ∀ u ∈ i64s L, u.oneCell' = true := by
  intro u hu
  simp only [i64s, List.mem_map] at hu
  obtain ⟨x, _, rfl⟩ := hu
  rfl
/-- where slabs begin -/
def slabsC (P : List Pg) : List Int := P.map fun p => ((1024 * p.q : Nat) : Int)
theorem slabsC_length (P : List Pg) : (slabsC P).length = P.length := by simp [slabsC]
set_option maxRecDepth 100000 in
set_option maxHeartbeats 1600000 in
theorem slabs_any (h : SGx W K w c b size M top gm gw mu n l A cap P) (hl : P.length ≤ 1048576) :
    Calls Tryd.prog 14 #[.pointer (some ⟨c, 0, none⟩)] w fun e w' => ∃ A' k', e = .returned (.slice A' P.length k') ∧ w'.ownsRow w.heap.size 3 1 (.slice A' P.length k') P.length (i64s (slabsC P)) ∧ Below w.heap.size w w' := by
  obtain ⟨i0, hi0, hz0, hz1, hz2⟩ := info_parts info_int
  have H := Lib.hid h
  have HS := Lib.hid hl
  have c2 := h.c2
  obtain ⟨m, hm⟩ : ∃ m, P.length = m := ⟨_, rfl⟩
  rw [hm] at c2
  rw [hm]
  have HN := Lib.hid hm
  clear h hl hm
  go_enter Tryd.func14, Tryd.ntmps14
  go_wp2_with fail
  go_loopw [3, 13] (fun s x wr => ∃ (k : Nat) (A1 : Option Addr) (k1 : Nat), x = .int .i64 (k : Int) ∧ k ≤ m ∧ s = .slice A1 k k1 ∧ wr.ownsRow w.heap.size 3 1 (.slice A1 k k1) k (i64s ((slabsC P).take k)) ∧ Below w.heap.size w wr) (fun _ x _ => m - (intOf x).toNat)
  case atStart => exact ⟨0, none, 0, rfl, Nat.zero_le _, rfl, World.ownsRow_nil _ _ _ _, Below.refl _ _⟩
  case round =>
    obtain ⟨k, A1, k1, rfl, hk, rfl, ho, hwr⟩ := hrel
    have HO := Lib.hid ho
    have HWR := Lib.hid hwr
    by_cases hkm : k < m
    · have hkl : k < P.length := by have := HN.out; omega
      obtain ⟨g, off, hA, hg, d0, d1⟩ := (H.out.below hwr).sl.pg hkl
      obtain ⟨Y, hY⟩ : ∃ Y : Int, ((1024 * P[k].q : Nat) : Int) = Y := ⟨_, rfl⟩
      obtain ⟨G, hG⟩ : ∃ G : Nat, P[k].gm = G := ⟨_, rfl⟩
      rw [hY] at d1
      rw [hG] at d0
      subst hA
      have i1 : (k : Int) < (m : Int) := by omega
      have i0' : (0 : Int) ≤ (k : Int) := by omega
      have zk : IntKind.i64.wrap ((k : Int) + 1) = (k : Int) + 1 := by rw [IntKind.wrap_i64]; have := HS.out; have := HN.out; omega
      have HT : Hid (i64s ((slabsC P).take k) ++ i64s [Y] = i64s ((slabsC P).take (k + 1))) := Lib.hid (by
        have e : (slabsC P)[k]? = some Y := by simp only [slabsC, List.getElem?_map, List.getElem?_eq_getElem hkl, Option.map_some, hY]
        rw [List.take_add_one, e, i64s, i64s, i64s, List.map_append]
        rfl)
      clear ho hwr hY hG hkl
      go_wp2_with (first | (at_builtin; refine wpList_app _ rfl (.tmp 17) (.tmp 20) 30 rfl w.heap.size 3 i0 _ 1 8 Tryd.underlying30 hi0 hz0 hz1 hz2 rfl (by omega) A1 k k1 _ rfl (ownsRow_below HO.out (((Below.refl _ wr).alloc (Nat.le_refl _) _).alloc (by simp) _)) _ 1 1 (i64s [Y]) rfl (by rfl) (by have := SlR_new (wr.alloc (.cells #[.pointer (some ⟨G, 0, none⟩), .int .i64 Y] 73)) #[.int .i64 Y] 3; rw [World.size_alloc] at this; exact this) (i64s_one _) (by have := HS.out; have := HN.out; unfold maxLen; omega) (by have := HS.out; have := HN.out; omega) (by have := HWR.out.size; simp; omega) ?_; intro A3 k3 w3 hown3 hg3 hb3))
      have HB3 : Hid (Below w.heap.size w w3) := Lib.hid (((HWR.out.alloc HWR.out.size _).alloc (by have := HWR.out.size; simp; omega) _).trans hb3)
      rw [HT.out] at hown3
      have HO3 := Lib.hid hown3
      clear hown3 hg3 hb3
      go_wp2
      go_roundw
      case rel => exact ⟨k + 1, A3, k3, by go_num, by omega, rfl, HO3.out, HB3.out⟩
      case measure => (try simp [intOf]) <;> omega
    · have i1 : ¬ ((k : Int) < (m : Int)) := by omega
      have ek : k = m := by omega
      subst ek
      have e : (slabsC P).take k = slabsC P := List.take_of_length_le (by rw [slabsC_length]; have := HN.out; omega)
      rw [e] at HO
      clear hwr ho e
      go_wp2
      go_ret
      exact ⟨A1, k1, rfl, HO.out, HWR.out⟩
end Go.Proofs.YtbadoihpbemjjaaDoor
