/- Take of a cache: a free place of a slab that is there. Condition: the cache's state. -/
import Derived.Test.YtflkoabgkgegjaaDoorY15
/- Take of a cache: a free place of a slab that is there. Condition: the cache's state. -/
namespace Go.Proofs.YtflkoabgkgegjaaDoor
open Go.RowKit Go.Maps
variable {W w w' : World} {K : List (Nat × Obj)} {c b size M top : Nat} {gm gw : Nat → Nat} {mu n : Nat} {l : List Tl} {A : Option Addr} {cap : Nat} {P : List Pg}

def FullP (M : Nat) (p : Pg) : Prop := ∀ i, i < M → bitW p.ws i = true
theorem FullP.first {M : Nat} {p : Pg} (h : FullP M p) : FirstS false M p.ws 0 (-1) := by
  refine .inl ⟨rfl, fun j _ hj => ?_⟩
  rw [h j hj]
  decide
set_option maxRecDepth 100000 in
set_option maxHeartbeats 1600000 in
theorem take_old (h : SGx W K w c b size M top gm gw mu n l A cap P) (hT : TabZ W) (P1 P2 : List Pg) (p : Pg) (hP : P = P1 ++ p :: P2) (h1 : ∀ x ∈ P1, FullP M x) (i : Nat) (hi : FirstS false M p.ws 0 (i : Int)) (him : i < M) (hs : size ≤ 512) (hM : M ≤ 60) (hq : ∀ x ∈ P, x.q < 1048576) (hl : P.length ≤ 1048576) (R : Int) (hR : R = ((1024 * p.q + 64 + i * size : Nat) : Int)) (ws' : List Nat) (hws : ws' = setL true M p.ws [(i : Int)]) :
    Calls Tryd.prog 27 #[.pointer (some ⟨c, 0, none⟩)] w fun e w' => e = .returned (.tuple #[.int .i64 R, .int .i64 0]) ∧ SGx W K w' c b size M top gm gw mu n l A cap (P1 ++ { p with ws := ws' } :: P2) := by
  have H := Lib.hid h
  have HT := Lib.hid hT
  have HP := Lib.hid hP
  have HF := Lib.hid h1
  have HI := Lib.hid hi
  have HQ := Lib.hid hq
  have HR := Lib.hid hR
  have HW := Lib.hid hws
  have HS : Hid (size ≤ 512 ∧ M ≤ 60 ∧ i < M ∧ P.length ≤ 1048576) := Lib.hid ⟨hs, hM, him, hl⟩
  have c2 := h.c2
  obtain ⟨m, hm⟩ : ∃ m, P.length = m := ⟨_, rfl⟩
  rw [hm] at c2
  have HN := Lib.hid hm
  clear h hT hP h1 hi hq hR hws hs hM him hl hm
  go_enter Tryd.func27, Tryd.ntmps27
  go_wp2_with fail
  go_loopw [19] (fun x wr => ∃ k : Nat, x = .int .i64 (k : Int) ∧ k ≤ P1.length ∧ Below w.heap.size w wr) (fun x _ => m - (intOf x).toNat)
  case atStart => exact ⟨0, rfl, Nat.zero_le _, Below.refl _ _⟩
  case round =>
    obtain ⟨k, rfl, hk, hwr⟩ := hrel
    have hkl : k < P.length := by have := HP.out; rw [this]; simp; omega
    have hkm : k < m := by have := HN.out; omega
    have Hwr := Lib.hid (H.out.below hwr)
    have HWR := Lib.hid hwr
    obtain ⟨g, off, hA, hg, d0, d1⟩ := Hwr.out.sl.pg hkl
    have hmem : P[k] ∈ P := List.getElem_mem _
    have mk := Hwr.out.maps _ hmem
    obtain ⟨y, hy⟩ : ∃ y, P[k] = y := ⟨_, rfl⟩
    rw [hy] at d0 d1 mk
    have HK : Hid (P[k]? = some y) := Lib.hid (by rw [List.getElem?_eq_getElem hkl, hy])
    obtain ⟨Y, hY⟩ : ∃ Y : Int, ((1024 * y.q : Nat) : Int) = Y := ⟨_, rfl⟩
    rw [hY] at d1
    subst hA
    have i1 : (k : Int) < (m : Int) := by omega
    have i0 : (0 : Int) ≤ (k : Int) := by omega
    have zk : IntKind.i64.wrap ((k : Int) + 1) = (k : Int) + 1 := by rw [IntKind.wrap_i64]; have := HS.out; omega
    go_wp2_with fail
    have h2 := Hwr.out.alloc (.cells #[.pointer (some ⟨y.gm, 0, none⟩), .int .i64 Y] 104)
    have b2 : Below wr.heap.size wr (wr.alloc (.cells #[.pointer (some ⟨y.gm, 0, none⟩), .int .i64 Y] 104)) := (Below.refl _ wr).alloc (Nat.le_refl _) _
    have f0 := cell_of_row _ _ 0 _ _ _ (heap_alloc_new wr (.cells #[.pointer (some ⟨y.gm, 0, none⟩), .int .i64 Y] 104))
    have f1 := cell_of_row _ _ 1 _ _ _ (heap_alloc_new wr (.cells #[.pointer (some ⟨y.gm, 0, none⟩), .int .i64 Y] 104))
    obtain ⟨z, hz⟩ : ∃ z, wr.heap.size = z := ⟨_, rfl⟩
    rw [hz] at f0 f1 b2
    rw [hz]
    have hz2 : z < (wr.alloc (.cells #[.pointer (some ⟨y.gm, 0, none⟩), .int .i64 Y] 104)).heap.size := by rw [World.size_alloc]; omega
    have mk2 := mk.below ((Below.refl _ wr).alloc (Nat.le_refl _) (.cells #[.pointer (some ⟨y.gm, 0, none⟩), .int .i64 Y] 104))
    have HZ : Hid (y.gw ≠ z) := Lib.hid (by have := mk.lt.2; omega)
    generalize hw2 : wr.alloc (.cells #[.pointer (some ⟨y.gm, 0, none⟩), .int .i64 Y] 104) = w2 at h2 b2 f0 f1 hz2 mk2 ⊢
    have HB2 : Hid (Below w.heap.size w w2) := Lib.hid (HWR.out.trans (b2.mono (by rw [← hz]; exact HWR.out.size)))
    have T2 : Hid (TabZ w2) := Lib.hid (HT.out.below HT.out.lt h2.bg.way)
    have H2 := Lib.hid h2
    have MK2 := Lib.hid mk2
    have HZ2 := Lib.hid hz2
    have HYY := Lib.hid hY
    clear hw2 h2 b2 hz2 mk2 mk hwr Hwr HWR d0 d1 hY hmem hz hy hkl
    by_cases q : k < P1.length
    · have hfull : FullP M y := HF.out y (by
        have e := HK.out
        rw [HP.out, List.getElem?_append_left q] at e
        exact List.mem_of_getElem? e)
      have HFU := Lib.hid hfull.first
      clear hfull
      refine (first_lit false w2 y.gm y.gw M y.ws 0 0 (-1) rfl HFU.out (by omega) MK2.out T2.out).mono ?_
      rintro e w' ⟨rfl, rfl⟩
      go_wp2
      go_roundw
      case rel => exact ⟨k + 1, by go_num, by omega, HB2.out⟩
      case measure => (try simp [intOf]) <;> omega
    · have ek : k = P1.length := by omega
      have ey : y = p := by
        have e := HK.out
        rw [HP.out, ek, List.getElem?_append_right (Nat.le_refl _), Nat.sub_self] at e
        simpa using e.symm
      subst ey
      obtain ⟨I, hI⟩ : ∃ I : Int, (i : Int) = I := ⟨_, rfl⟩
      have HII := Lib.hid hI
      have HI2 : Hid (FirstS false M y.ws 0 I) := Lib.hid (by rw [← hI]; exact HI.out)
      have p0 : decide ((0 : Int) ≤ I) = true := decide_eq_true (by omega)
      clear hI
      refine (first_lit false w2 y.gm y.gw M y.ws 0 0 I rfl HI2.out (by omega) MK2.out T2.out).mono ?_
      rintro e w' ⟨rfl, hw⟩
      have hw2 := hw.symm
      clear hw
      subst hw2
      go_wp2_with fail
      have h3 := H2.out.alloc (.cells #[.int .i64 I] 3)
      have b3 : Below w2.heap.size w2 (w2.alloc (.cells #[.int .i64 I] 3)) := (Below.refl _ w2).alloc (Nat.le_refl _) _
      have s3 : SlR (w2.alloc (.cells #[.int .i64 I] 3)) (some ⟨w2.heap.size, 0, none⟩) (i64s [I]) := SlR_new _ _ _
      have f03 := (b3.cell (p := ⟨z, 0, none⟩) HZ2.out).trans f0
      have f13 := (b3.cell (p := ⟨z, 1, none⟩) HZ2.out).trans f1
      have mk3 := MK2.out.below b3
      have hne : w2.heap.size ≠ y.gw := by have := MK2.out.lt.2; omega
      have hz3 : z < (w2.alloc (.cells #[.int .i64 I] 3)).heap.size := Nat.lt_of_lt_of_le HZ2.out b3.size
      generalize hw3 : w2.alloc (.cells #[.int .i64 I] 3) = w3 at h3 b3 s3 f03 f13 mk3 hz3 ⊢
      refine (set_lit true [I] 1 rfl (some ⟨w2.heap.size, 0, none⟩) 1 w3 y.gm y.gw M y.ws ws' _ (by rw [HW.out, HII.out]) rfl mk3 s3 (fun _ a ea => by injection ea with ea; subst ea; exact hne) (by omega)).mono ?_
      rintro e w4 ⟨rfl, m4, g4⟩
      have h4 := h3.set HP.out g4 m4
      have f04 := (grown_cell (o := 0) g4 hz3 (Ne.symm HZ.out)).trans f03
      have f14 := (grown_cell (o := 1) g4 hz3 (Ne.symm HZ.out)).trans f13
      have H4 := Lib.hid h4
      clear hw3 h3 b3 s3 f03 f13 mk3 hne hz3 m4 g4 h4 f0 f1
      go_wp2_with fail
      refine (place_any c size (1024 * y.q) i _ rfl w4 HS.out.1 (by have := HS.out; omega) (by have := HQ.out y (by rw [HP.out]; simp); omega) I R HII.out.symm Y HYY.out.symm HR.out H4.out.c1 H4.out.clt).mono ?_
      rintro e w5 ⟨rfl, h5⟩
      have H5 := Lib.hid (H4.out.below h5)
      clear h5
      go_wp2
      go_ret2
      exact ⟨rfl, H5.out⟩
end Go.Proofs.YtflkoabgkgegjaaDoor
