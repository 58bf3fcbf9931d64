/- Take of a cache: a new slab ahead of others. Condition: the cache's state; the slabs are full. -/
import Derived.Test.YtflkoabgkgegjaaGreatDoorY16
/- Take of a cache: a new slab ahead of others. Condition: the cache's state; the slabs are full. -/
namespace Go.Proofs.YtflkoabgkgegjaaGreatDoor
open Go.RowKit Go.Maps
variable {W w w' : World} {K : List (Nat × Obj)} {c b size M top : Nat} {gm gw : Nat → Nat} {mu n : Nat} {l : List Tl} {A : Option Addr} {cap : Nat} {P : List Pg}

set_option maxRecDepth 100000 in
set_option maxHeartbeats 3200000 in
theorem take_mid (h : SGx W K w c b size M top gm gw mu n l A cap P) (hT : TabZ W) (hn : n < 1000) (h1 : ∀ x ∈ P, FullP M x) (hl : P.length < 1048576) (hs : 16 ≤ size) (hs2 : size ≤ 512) (hM : M = 960 / size) (q : Nat) (hq : q < 1048576) (i : Nat) (hi : i < P.length) (Q : Int) (hQ : Q = ((1024 * q : Nat) : Int)) (hpo : PlaceOf P Q i) (hqn : ∀ x ∈ P, x.q ≠ q) (l' : List Tl) (hc : takeC top l 0 = (Q, 0, l')) (R : Int) (hR : R = ((1024 * q + 64 : Nat) : Int)) :
    Calls Tryz.prog 49 #[.pointer (some ⟨c, 0, none⟩)] w fun e w' => e = .returned (.tuple #[.int .i64 R, .int .i64 0]) ∧ ∃ A' cap' p, p.q = q ∧ p.ws = freshW M ∧ SGx W K w' c b size M top gm gw mu (n + 1) l' A' cap' (P.take i ++ p :: P.drop i) := by
  have H := Lib.hid h
  have HT := Lib.hid hT
  have HF := Lib.hid h1
  have HC := Lib.hid hc
  have HQ := Lib.hid hQ
  have HR := Lib.hid hR
  have HPO := Lib.hid hpo
  have HQN := Lib.hid hqn
  have HIN : Hid (i < P.length) := Lib.hid hi
  have HM60 : M ≤ 60 := by
    rw [hM]
    have : 960 / size ≤ 960 / 16 := Nat.div_le_div_left hs (by omega)
    omega
  have HM1 : 0 < M := by
    rw [hM]
    exact Nat.div_pos (by omega) (by omega)
  have HS : Hid (P.length < 1048576 ∧ n < 1000 ∧ 16 ≤ size ∧ size ≤ 512 ∧ M = 960 / size ∧ q < 1048576 ∧ M ≤ 60 ∧ 0 < M) := Lib.hid ⟨hl, hn, hs, hs2, hM, hq, HM60, HM1⟩
  have c2 := h.c2
  obtain ⟨m, hm⟩ : ∃ m, P.length = m := ⟨_, rfl⟩
  rw [hm] at c2
  have HN := Lib.hid hm
  clear h hT h1 hc hl hn hm hs hs2 hM hq hpo hqn hi hQ hR HM60 HM1
  go_enter Tryz.func49, Tryz.ntmps49
  go_wp2_with fail
  go_loopw [19] (fun x wr => ∃ k : Nat, x = .int .i64 (k : Int) ∧ k ≤ m ∧ Below w.heap.size w wr) (fun x _ => m - (intOf x).toNat)
  case atStart => exact ⟨0, rfl, Nat.zero_le _, Below.refl _ _⟩
  case round =>
    obtain ⟨k, rfl, hk, hwr⟩ := hrel
    by_cases hkm : k < m
    · have hkl : k < P.length := by have := HN.out; omega
      have Hwr := Lib.hid (H.out.below hwr)
      have HWR := Lib.hid hwr
      obtain ⟨g, off, hA, hg, d0, d1⟩ := Hwr.out.sl.pg hkl
      have hmem : P[k] ∈ P := List.getElem_mem _
      have mk := Hwr.out.maps _ hmem
      obtain ⟨y, hy⟩ : ∃ y, P[k] = y := ⟨_, rfl⟩
      rw [hy] at d0 d1 mk hmem
      obtain ⟨Y, hY⟩ : ∃ Y : Int, ((1024 * y.q : Nat) : Int) = Y := ⟨_, rfl⟩
      rw [hY] at d1
      subst hA
      have i1 : (k : Int) < (m : Int) := by omega
      have i0 : (0 : Int) ≤ (k : Int) := by omega
      have zk : IntKind.i64.wrap ((k : Int) + 1) = (k : Int) + 1 := by rw [IntKind.wrap_i64]; have := HS.out.1; have := HN.out; omega
      go_wp2_with fail
      have b2 : Below wr.heap.size wr (wr.alloc (.cells #[.pointer (some ⟨y.gm, 0, none⟩), .int .i64 Y] 140)) := (Below.refl _ wr).alloc (Nat.le_refl _) _
      have mk2 := mk.below ((Below.refl _ wr).alloc (Nat.le_refl _) (.cells #[.pointer (some ⟨y.gm, 0, none⟩), .int .i64 Y] 140))
      have h2 := Hwr.out.alloc (.cells #[.pointer (some ⟨y.gm, 0, none⟩), .int .i64 Y] 140)
      generalize hw2 : wr.alloc (.cells #[.pointer (some ⟨y.gm, 0, none⟩), .int .i64 Y] 140) = w2 at h2 b2 mk2 ⊢
      have HB2 : Hid (Below w.heap.size w w2) := Lib.hid (HWR.out.trans (b2.mono HWR.out.size))
      have T2 : Hid (TabZ w2) := Lib.hid (HT.out.below HT.out.lt h2.bg.way)
      have MK2 := Lib.hid mk2
      have HFU := Lib.hid (HF.out y hmem).first
      clear hw2 h2 b2 mk2 mk hwr Hwr HWR d0 d1 hY hmem hy hkl
      refine (first_lit false w2 y.gm y.gw M y.ws 0 0 (-1) rfl HFU.out (by omega) MK2.out T2.out).mono ?_
      rintro e w' ⟨rfl, rfl⟩
      go_wp2
      go_roundw
      case rel => exact ⟨k + 1, by go_num, by omega, HB2.out⟩
      case measure => (try simp [intOf]) <;> omega
    · have i1 : ¬ ((k : Int) < (m : Int)) := by omega
      have Hwr := Lib.hid (H.out.below hwr)
      have c0 := Hwr.out.c0
      clear hwr
      go_wp2_with fail
      refine (take_l Hwr.out.bg HT.out HS.out.2.1 0 Q 0 l' HC.out).mono ?_
      rintro e w3 ⟨rfl, h3⟩
      have H3 := Lib.hid (Hwr.out.buddy h3)
      clear h3
      go_wp2_with fail
      refine (smany_any c size M w3 HS.out.2.2.1 HS.out.2.2.2.2.1 H3.out.c1).mono ?_
      rintro e w' ⟨rfl, hw⟩
      have hw2 := hw.symm
      clear hw
      subst hw2
      go_wp2_with fail
      refine (new_lit M (M : Int) rfl w3 (by have := HS.out; omega)).mono ?_
      rintro e w4 ⟨rfl, m4, b4⟩
      have M4 := Lib.hid m4
      have B4 := Lib.hid b4
      clear m4 b4
      go_wp2_with fail
      obtain ⟨G, hG⟩ : ∃ G, w3.heap.size = G := ⟨_, rfl⟩
      have m4 := M4.out
      have b4 := B4.out
      rw [hG] at m4 b4
      rw [hG]
      have b5 : Below w4.heap.size w4 ((w4.alloc (.cells #[.pointer (some ⟨G + 1, 0, none⟩), .int .i64 Q] 140)).alloc (.cells #[.int .i64 0] 3)) := ((Below.refl _ w4).alloc (Nat.le_refl _) _).alloc (by simp) _
      have bx : Below (w4.heap.size + 1) (w4.alloc (.cells #[.pointer (some ⟨G + 1, 0, none⟩), .int .i64 Q] 140)) ((w4.alloc (.cells #[.pointer (some ⟨G + 1, 0, none⟩), .int .i64 Q] 140)).alloc (.cells #[.int .i64 0] 3)) := (Below.refl _ _).alloc (by simp) _
      have f0 := (bx.cell (p := ⟨w4.heap.size, 0, none⟩) (Nat.lt_succ_self _)).trans (cell_of_row _ _ 0 _ _ _ (heap_alloc_new w4 (.cells #[.pointer (some ⟨G + 1, 0, none⟩), .int .i64 Q] 140)))
      have f1 := (bx.cell (p := ⟨w4.heap.size, 1, none⟩) (Nat.lt_succ_self _)).trans (cell_of_row _ _ 1 _ _ _ (heap_alloc_new w4 (.cells #[.pointer (some ⟨G + 1, 0, none⟩), .int .i64 Q] 140)))
      have s6 : SlR ((w4.alloc (.cells #[.pointer (some ⟨G + 1, 0, none⟩), .int .i64 Q] 140)).alloc (.cells #[.int .i64 0] 3)) (some ⟨w4.heap.size + 1, 0, none⟩) (i64s [(0 : Int)]) := by
        have := SlR_new (w4.alloc (.cells #[.pointer (some ⟨G + 1, 0, none⟩), .int .i64 Q] 140)) #[.int .i64 0] 3
        rw [World.size_alloc] at this
        exact this
      have hz6 : w4.heap.size < ((w4.alloc (.cells #[.pointer (some ⟨G + 1, 0, none⟩), .int .i64 Q] 140)).alloc (.cells #[.int .i64 0] 3)).heap.size := by simp; omega
      have m6 := m4.below b5
      have lt4 := m4.lt
      obtain ⟨z, hz⟩ : ∃ z, w4.heap.size = z := ⟨_, rfl⟩
      rw [hz] at f0 f1 s6 hz6 lt4 b5
      rw [hz]
      generalize hw6 : (w4.alloc (.cells #[.pointer (some ⟨G + 1, 0, none⟩), .int .i64 Q] 140)).alloc (.cells #[.int .i64 0] 3) = w6 at b5 f0 f1 s6 hz6 m6 ⊢
      have b36 : Below G w3 w6 := b4.trans (b5.mono (by omega))
      refine (set_lit true [0] 1 rfl (some ⟨z + 1, 0, none⟩) 1 w6 (G + 1) G M _ (freshW M) _ rfl rfl m6 s6 (fun _ a ea => by injection ea with ea; subst ea; show z + 1 ≠ G; omega) (by omega)).mono ?_
      rintro e w7 ⟨rfl, m7, g7⟩
      have b37 : Below w3.heap.size w3 w7 := by rw [hG]; exact b36.trans (grownBy_below g7 (Nat.le_refl _) (by have := b36.size; omega))
      have f07 := (grown_cell (o := 0) g7 hz6 (by omega)).trans f0
      have f17 := (grown_cell (o := 1) g7 hz6 (by omega)).trans f1
      have H7 := Lib.hid (H3.out.below b37)
      have M7 := Lib.hid m7
      have hz7 : z < w7.heap.size := Nat.lt_of_lt_of_le hz6 g7.size
      have HGZ : Hid (G < z ∧ G = w3.heap.size) := Lib.hid (by omega)
      have c27 : w7.cell? ⟨c, 2, none⟩ = some (.slice A m cap) := by have := H7.out.c2; rw [HN.out] at this; exact this
      clear hw6 b4 b5 bx f0 f1 s6 hz6 m4 m6 lt4 b36 b37 m7 g7 hG hz
      go_wp2_with fail
      refine (find_any P H7.out.rise c b size m HN.out (by have := HS.out.1; have := HN.out; omega) A cap Q i HPO.out false ⟨fun h => (by cases h), fun ⟨h, e⟩ => absurd (show P[i].q = q by have := HQ.out; omega) (HQN.out _ (List.getElem_mem h))⟩ w7 H7.out.sl c27).mono ?_
      rintro e w8 ⟨rfl, b8⟩
      have h8 := H7.out.below b8
      have H8 := Lib.hid h8
      have M8 := Lib.hid (M7.out.below b8)
      have f08 := (b8.cell (p := ⟨z, 0, none⟩) hz7).trans f07
      have f18 := (b8.cell (p := ⟨z, 1, none⟩) hz7).trans f17
      have c28 := (b8.cell (p := ⟨c, 2, none⟩) H7.out.clt).trans c27
      have HZ8 : Hid (z < w8.heap.size) := Lib.hid (Nat.lt_of_lt_of_le hz7 b8.size)
      clear h8 b8 f07 f17 c27 hz7
      go_wp2_with fail
      have hI := (H8.out.alloc (.cells #[.pointer (some ⟨G + 1, 0, none⟩), .int .i64 Q] 140)).below (Below.refl _ _).drew
      have bI : Below w8.heap.size w8 (w8.alloc (.cells #[.pointer (some ⟨G + 1, 0, none⟩), .int .i64 Q] 140)).drew := ((Below.refl _ w8).alloc (Nat.le_refl _) _).drew
      have cI2 : (w8.alloc (.cells #[.pointer (some ⟨G + 1, 0, none⟩), .int .i64 Q] 140)).drew.cell? ⟨c, 2, none⟩ = some (.slice A m cap) := by have := hI.c2; rw [HN.out] at this; exact this
      have HI := Lib.hid hI
      have BI := Lib.hid bI
      have HBL : Hid ((w8.alloc (.cells #[.pointer (some ⟨G + 1, 0, none⟩), .int .i64 Q] 140)).drew.heap[w8.heap.size]? = some (.cells (pCells [⟨q, G + 1, G, freshW M⟩]).toArray 140 (0, 0))) := Lib.hid (by
        have := heap_alloc_new w8 (.cells #[.pointer (some ⟨G + 1, 0, none⟩), .int .i64 Q] 140)
        rw [HQ.out] at this ⊢
        exact this)
      have HNE : Hid (some w8.heap.size ≠ (Value.slice A m cap).ownBlock) := Lib.hid (fun e => by
        obtain ⟨cs, hc⟩ := H8.out.rowne (by rw [HN.out]; exact e)
        have := blt hc
        omega)
      have HIM : Hid (i < m) := Lib.hid (by have := HIN.out; have := HN.out; omega)
      have HOW : Hid ((w8.alloc (.cells #[.pointer (some ⟨G + 1, 0, none⟩), .int .i64 Q] 140)).drew.ownsRow W.heap.size 140 2 (.slice A m cap) m (pCells P)) := Lib.hid (by have := hI.own; rw [HN.out] at this; exact this)
      have HBS : Hid (W.heap.size ≤ (w8.alloc (.cells #[.pointer (some ⟨G + 1, 0, none⟩), .int .i64 Q] 140)).drew.heap.size) := Lib.hid hI.bg.way.size
      have HPL : Hid (m < 1048576) := Lib.hid (by have := HS.out.1; have := HN.out; omega)
      clear hI bI
      go_region_law (first | (go_simp; go_at_call 74; refine (insert_mid P ⟨q, G + 1, G, freshW M⟩ m i HN.out HIM.out HPL.out A cap w8.heap.size 1 W.heap.size (i : Int) rfl _ HOW.out HBL.out HNE.out HBS.out).mono ?_; rintro e w9 ⟨A9, k9, rfl, ho9, hg9, hb9, hf9⟩; have HG9 := Lib.hid (HI.out.row_grown (by rw [HN.out]; exact hg9)); have c29 : w9.cell? ⟨c, 2, none⟩ = some (.slice A P.length cap) := (cell_of_row _ _ 2 _ _ _ HG9.out).trans rfl; have z29 := frozen_of_row _ _ 2 _ _ HG9.out))
      all_goals
        have h10 : SGx W K (w9.setCell ⟨c, 2, none⟩ (.slice (some A9) (m + 1) k9)) c b size M top gm gw mu (n + 1) l' (some A9) k9 (P.take i ++ ⟨q, G + 1, G, freshW M⟩ :: P.drop i) := by
          have hlen : (P.take i ++ (⟨q, G + 1, G, freshW M⟩ : Pg) :: P.drop i).length = m + 1 := by rw [List.length_append, List.length_cons, List.length_take, List.length_drop]; have := HN.out; have := HIM.out; omega
          have hx := HGZ.out
          have mI := M8.out.below BI.out
          have mem : ∀ x ∈ P.take i ++ (⟨q, G + 1, G, freshW M⟩ : Pg) :: P.drop i, x = ⟨q, G + 1, G, freshW M⟩ ∨ x ∈ P := fun x hx => by
            rcases List.mem_append.1 hx with hx | hx
            · exact .inr (List.mem_of_mem_take hx)
            · rcases List.mem_cons.1 hx with hx | hx
              · exact .inl hx
              · exact .inr (List.mem_of_mem_drop hx)
          have hpw : ∀ {R : Pg → Pg → Prop}, P.Pairwise R → (∀ x ∈ P.take i, R x ⟨q, G + 1, G, freshW M⟩) → (∀ x ∈ P.drop i, R ⟨q, G + 1, G, freshW M⟩ x) → (P.take i ++ (⟨q, G + 1, G, freshW M⟩ : Pg) :: P.drop i).Pairwise R := fun {R} hp h1 h2 => by
            have h3 : (P.take i ++ P.drop i).Pairwise R := by rw [List.take_append_drop]; exact hp
            rw [List.pairwise_append] at h3 ⊢
            refine ⟨h3.1, List.pairwise_cons.2 ⟨h2, h3.2.1⟩, fun x hx y hy => ?_⟩
            rcases List.mem_cons.1 hy with rfl | hy
            · exact h1 x hx
            · exact h3.2.2 x hx y hy
          have hgn : ∀ x ∈ P, x.gw ≠ G := fun x hx => by
            have := (H3.out.maps x hx).lt.2
            omega
          have key := HI.out.lay (w' := w9) (P' := P.take i ++ ⟨q, G + 1, G, freshW M⟩ :: P.drop i) (A' := some A9) (cap' := k9) (by rw [HN.out]; exact hg9) (by rw [hlen]; exact ho9) (fun g hg => by
            injection hg with hg
            subst hg
            rw [HN.out]
            rcases hf9 with h | h
            · exact .inl h
            · exact .inr (by rw [h]; exact Nat.le_refl _)) (fun x hx => by
            rcases mem x hx with rfl | hx
            · exact mI
            · exact HI.out.maps x hx) (hpw HI.out.gws (fun x hx => hgn x (List.mem_of_mem_take hx)) (fun x hx e => hgn x (List.mem_of_mem_drop hx) e.symm)) (hpw HI.out.rise (fun x hx => by
            obtain ⟨k2, hk2, rfl⟩ := List.getElem_of_mem hx
            rw [List.length_take] at hk2
            rw [List.getElem_take]
            have := HPO.out.lo k2 (by omega) (by omega)
            have := HQ.out
            show P[k2].q < q
            omega) (fun x hx => by
            obtain ⟨k2, hk2, rfl⟩ := List.getElem_of_mem hx
            rw [List.length_drop] at hk2
            rw [List.getElem_drop]
            have h1 := HPO.out.hi (i + k2) (by omega) (by omega)
            have h2 := HQ.out
            have h3 := HQN.out P[i + k2] (List.getElem_mem _)
            show q < P[i + k2].q
            omega)) (fun x hx => by
            rcases mem x hx with rfl | hx
            · show W.heap.size ≤ G
              rw [HGZ.out.2]; exact H3.out.bg.way.size
            · exact HI.out.pnew x hx) (fun x hx k hk => by
            rcases mem x hx with rfl | hx
            · have := H3.out.bg.gw_lt hk
              show G ≠ gw k
              omega
            · exact HI.out.sep x hx k hk) (fun x hx y hy => by
            rcases mem y hy with rfl | hy
            · have := blt (H3.out.kept x hx)
              show x.1 ≠ G
              omega
            · exact HI.out.kpg x hx y hy)
          rw [hlen] at key
          exact key
        have hAz : some z ≠ (Value.slice A m cap).ownBlock := fun e => by
          obtain ⟨cs, hc⟩ := H3.out.rowne (by rw [HN.out]; exact e)
          have := blt hc
          have := HGZ.out
          omega
        have hzI : z < (w8.alloc (.cells #[.pointer (some ⟨G + 1, 0, none⟩), .int .i64 Q] 140)).drew.heap.size := Nat.lt_of_lt_of_le HZ8.out BI.out.size
        have hzc : z ≠ c := by
          have := H3.out.clt
          have := HGZ.out
          omega
        have bc : w9.grownBy (w9.setCell ⟨c, 2, none⟩ (.slice (some A9) (m + 1) k9)) (some c) := gb_set (World.grownBy.refl _ _) _ _
        have f0t : (w9.setCell ⟨c, 2, none⟩ (.slice (some A9) (m + 1) k9)).cell? ⟨z, 0, none⟩ = some (.pointer (some ⟨G + 1, 0, none⟩)) := (grown_cell bc (Nat.lt_of_lt_of_le hzI hg9.size) hzc).trans ((grown_cell2 hg9 hzI hAz).trans ((BI.out.cell (p := ⟨z, 0, none⟩) HZ8.out).trans f08))
        have f1t : (w9.setCell ⟨c, 2, none⟩ (.slice (some A9) (m + 1) k9)).cell? ⟨z, 1, none⟩ = some (.int .i64 Q) := (grown_cell bc (Nat.lt_of_lt_of_le hzI hg9.size) hzc).trans ((grown_cell2 hg9 hzI hAz).trans ((BI.out.cell (p := ⟨z, 1, none⟩) HZ8.out).trans f18))
        generalize hwt : w9.setCell ⟨c, 2, none⟩ (.slice (some A9) (m + 1) k9) = wt at h10 f0t f1t ⊢
        have H10 := Lib.hid h10
        clear hwt h10 bc hzc hzI hAz c29 z29 ho9 hg9 hb9 hf9 HG9 f08 f18 c28 cI2
        go_wp2_with fail
        refine (place_any c size (1024 * q) 0 _ rfl wt HS.out.2.2.2.1 (by omega) (by have := HS.out; omega) 0 R rfl Q HQ.out (by rw [HR.out, Nat.zero_mul, Nat.add_zero]) H10.out.c1 H10.out.clt).mono ?_
        rintro e w11 ⟨rfl, h11⟩
        have H11 := Lib.hid (H10.out.below h11)
        clear h11
        go_wp2
        go_ret2
        exact ⟨rfl, _, _, _, rfl, rfl, H11.out⟩
end Go.Proofs.YtflkoabgkgegjaaGreatDoor
