/- Give of a cache. Condition: the cache's state. -/
import Derived.Test.YtbadoihpbemjjaaDoorTC
namespace Go.Proofs.YtbadoihpbemjjaaDoor
open Go.RowKit Go.Maps
variable {W w w' : World} {K : List (Nat × Obj)} {c b size M top : Nat} {gm gw : Nat → Nat} {mu n : Nat} {l : List Tl} {A : Option Addr} {cap : Nat} {P : List Pg}

set_option maxRecDepth 100000 in
set_option maxHeartbeats 1600000 in
theorem sgive_no (h : SGx W K w c b size M top gm gw mu n l A cap P) (hl : P.length ≤ 1048576) (hs : 0 < size) (hs2 : size ≤ 512) (X : Int) (hX : (Lit.int .i64 X).wf = true) (hno : X ∉ usedC M size P) :
    Calls Tryd.prog 12 #[.pointer (some ⟨c, 0, none⟩), .int .i64 X] w fun e w' => e = .returned (.int .i64 6) ∧ Below w.heap.size w w' := by
  have hc := spot_no h hl hs hs2 X hX hno
  have HC := Lib.hid hc
  clear hc h hX hno hs hs2 hl
  go_enter Tryd.func12, Tryd.ntmps12
  go_wp2_with fail
  refine HC.out.mono ?_
  rintro e w2 ⟨rfl, h2⟩
  go_wp2
  go_ret
  exact ⟨rfl, h2⟩
set_option maxRecDepth 100000 in
set_option maxHeartbeats 3200000 in
theorem sgive_yes (h : SGx W K w c b size M top gm gw mu n l A cap P) (hl : P.length ≤ 1048576) (hs : 0 < size) (hs2 : size ≤ 512) (hM : M = 960 / size) (P1 P2 : List Pg) (p : Pg) (hP : P = P1 ++ p :: P2) (hq : p.q < 1048576) (j : Nat) (hj : j < M) (hb : bitW p.ws j = true) (X : Int) (hX : X = ((1024 * p.q + 64 + j * size : Nat) : Int)) (ws' : List Nat) (hws : ws' = setL false M p.ws [(j : Int)]) (er : Int) (l' : List Tl) (hc : giveC top l ((1024 * p.q : Nat) : Int) = (er, l')) :
    Calls Tryd.prog 12 #[.pointer (some ⟨c, 0, none⟩), .int .i64 X] w fun e w' => e = .returned (.int .i64 0) ∧ ((popL ws' ≠ 0 ∧ SGx W K w' c b size M top gm gw mu n l A cap (P1 ++ { p with ws := ws' } :: P2)) ∨ (popL ws' = 0 ∧ SGx W K w' c b size M top gm gw mu n l' A cap (P1 ++ P2))) := by
  have hsp := spot_yes h hl hs hs2 hM P1 P2 p hP hq j hj hb X hX _ rfl
  have HSP := Lib.hid hsp
  have H := Lib.hid h
  have HP := Lib.hid hP
  have HWS := Lib.hid hws
  have HGC := Lib.hid hc
  obtain ⟨m, hm⟩ : ∃ m, P.length = m := ⟨_, rfl⟩
  obtain ⟨k, hk⟩ : ∃ k, P1.length = k := ⟨_, rfl⟩
  have HM := Lib.hid hm
  have HK := Lib.hid hk
  have hkm : k < m := by rw [← hm, ← hk, hP]; simp
  have HB : Hid (m ≤ 1048576 ∧ k < m ∧ p.q < 1048576) := Lib.hid ⟨by omega, hkm, hq⟩
  obtain ⟨g, off, hA, hg, d0, d1⟩ := h.sl.pg (k := k) (by omega)
  have hPk : P[k]'(by omega) = p := by subst hP; subst hk; simp
  rw [hPk] at d0 d1
  obtain ⟨Y, hY⟩ : ∃ Y : Int, ((1024 * p.q : Nat) : Int) = Y := ⟨_, rfl⟩
  obtain ⟨G, hG⟩ : ∃ G : Nat, p.gm = G := ⟨_, rfl⟩
  rw [hY] at d1
  rw [hG] at d0
  obtain ⟨J, hJ⟩ : ∃ J : Int, (j : Int) = J := ⟨_, rfl⟩
  have HY := Lib.hid hY
  have HJ := Lib.hid hJ
  have HG := Lib.hid hG
  rw [hk, hJ] at HSP
  have c2 := h.c2
  rw [hm] at c2
  subst hA
  have k0 : (0 : Int) ≤ (k : Int) := by omega
  have k1 : (k : Int) < (m : Int) := by omega
  have zk : IntKind.i64.wrap ((k : Int) + 1) = (k : Int) + 1 := by rw [IntKind.wrap_i64]; omega
  have off0 : off = 0 := by
    have ho := h.own.2
    rcases ho with ⟨hv, _⟩ | ⟨_, _, _, hv, _⟩
    · cases hv
    · injection hv with e _ _
      injection e with e
      injection e
  subst off0
  rw [Nat.zero_add] at d0 d1
  clear hsp h hP hws hc hm hk hkm hq hPk hY hG hJ hX hb hj hM hs hs2 hl
  go_enter Tryd.func12, Tryd.ntmps12
  go_wp2_with fail
  refine HSP.out.mono ?_
  rintro e w2 ⟨rfl, b2⟩
  have H2 := Lib.hid (H.out.below b2)
  have e0 := (b2.cell (p := ⟨g, k * 2, none⟩) hg).trans d0
  have e1 := (b2.cell (p := ⟨g, k * 2 + 1, none⟩) hg).trans d1
  have e2 := (b2.cell (p := ⟨c, 2, none⟩) H.out.clt).trans c2
  clear b2 d0 d1 c2
  go_wp2_with fail
  have mk2 := H2.out.maps p (by rw [HP.out]; simp)
  have bx : Below (w2.heap.size + 1) (w2.alloc (.cells #[.pointer (some ⟨G, 0, none⟩), .int .i64 Y] 73)) ((w2.alloc (.cells #[.pointer (some ⟨G, 0, none⟩), .int .i64 Y] 73)).alloc (.cells #[.int .i64 J] 3)) := (Below.refl _ _).alloc (by simp) _
  have b3 : Below w2.heap.size w2 ((w2.alloc (.cells #[.pointer (some ⟨G, 0, none⟩), .int .i64 Y] 73)).alloc (.cells #[.int .i64 J] 3)) := ((Below.refl _ w2).alloc (Nat.le_refl _) _).alloc (by simp) _
  have o3 := (bx.block w2.heap.size (Nat.lt_succ_self _)).trans (heap_alloc_new w2 (.cells #[.pointer (some ⟨G, 0, none⟩), .int .i64 Y] 73))
  have s3 : SlR ((w2.alloc (.cells #[.pointer (some ⟨G, 0, none⟩), .int .i64 Y] 73)).alloc (.cells #[.int .i64 J] 3)) (some ⟨w2.heap.size + 1, 0, none⟩) (i64s [J]) := by
    have := SlR_new (w2.alloc (.cells #[.pointer (some ⟨G, 0, none⟩), .int .i64 Y] 73)) #[.int .i64 J] 3
    rw [World.size_alloc] at this
    exact this
  have h3 := H2.out.below b3
  have mk3 := mk2.below b3
  have lt2 := mk2.lt
  obtain ⟨z, hz⟩ : ∃ z, w2.heap.size = z := ⟨_, rfl⟩
  rw [hz] at o3 s3 lt2 b3
  rw [hz]
  rw [HG.out] at mk3
  generalize hw3 : (w2.alloc (.cells #[.pointer (some ⟨G, 0, none⟩), .int .i64 Y] 73)).alloc (.cells #[.int .i64 J] 3) = w3 at h3 b3 o3 s3 mk3 ⊢
  refine (set_lit false [J] 1 rfl (some ⟨z + 1, 0, none⟩) 1 w3 G p.gw M p.ws ws' _ (by rw [HWS.out, HJ.out]) rfl mk3 s3 (fun _ a ea => by injection ea with ea; subst ea; show z + 1 ≠ p.gw; omega) (by omega)).mono ?_
  rintro e w4 ⟨rfl, m4, g4⟩
  have m4' := m4
  rw [← HG.out] at m4'
  have H4 := Lib.hid (h3.set HP.out g4 m4')
  have hzg : z ≠ p.gw := by omega
  have o4 : Hid (w4.heap[z]? = some (.cells #[.pointer (some ⟨G, 0, none⟩), .int .i64 Y] 73 (0, 0))) := Lib.hid ((g4.block z (blt o3) (fun e => hzg (by injection e))).trans o3)
  have M4 := Lib.hid m4
  have f0 := cell_of_row _ _ 0 _ _ _ o4.out
  have f1 := cell_of_row _ _ 1 _ _ _ o4.out
  clear mk2 bx b3 o3 s3 h3 mk3 lt2 hz hw3 m4 m4' g4 hzg e0 e1 e2
  obtain ⟨C, hC⟩ : ∃ C : Int, ((popL ws' : Nat) : Int) = C := ⟨_, rfl⟩
  have HC := Lib.hid hC
  by_cases q : popL ws' = 0
  · have q0 : (C == 0) = true := by simp only [beq_iff_eq]; omega
    have HQ := Lib.hid q
    clear q hC
    go_wp2_with fail
    refine (count_lit w4 G p.gw M ws' C HC.out M4.out).mono ?_
    rintro e w' ⟨rfl, hw'⟩
    have hw2 := hw'.symm
    clear hw'
    subst hw2
    have c0 := H4.out.c0
    go_wp2_with fail
    have H4D := Lib.hid (H4.out.below (Below.refl _ _).drew)
    have HWF : Hid ((Lit.int .i64 Y).wf = true) := Lib.hid (WalkArith.wf_i64 (by have := HY.out; have := HB.out; omega))
    have HGY : Hid (giveC top l Y = (er, l')) := Lib.hid (by rw [← HY.out]; exact HGC.out)
    go_region_law (first | (go_simp; go_at_call 41; refine (give_l H4D.out.bg Y HWF.out er l' HGY.out).mono ?_; rintro e w5 ⟨rfl, h5⟩))
    all_goals
      have H5 := Lib.hid (H4D.out.buddy h5)
      have hlen : (P1 ++ ({ p with ws := ws' } : Pg) :: P2).length = m := by rw [← HM.out, HP.out]; simp
      have HLEN := Lib.hid hlen
      have c25 := H5.out.c2
      rw [hlen] at c25
      have HO5 := Lib.hid H5.out.own
      rw [hlen] at HO5
      have HR5 : ∀ w6 : World, w5.grownBy w6 (some g) → w6.heap[c]? = some (.cells (cRow b (size : Int) (some ⟨g, 0, none⟩) m cap) 71 (0, 0)) := fun w6 hg6 => by
        have := H5.out.row_grown hg6
        rw [hlen] at this
        exact this
      have HRR := Lib.hid HR5
      clear h5 hlen HR5 f0 f1 c0
      go_wp2_with fail
      refine (delete_any _ k m HLEN.out HB.out.2.1 HB.out.1 g cap (k : Int) ((k : Int) + 1) rfl rfl W.heap.size w5 HO5.out).mono ?_
      rintro e w6 ⟨rfl, ho6, hg6⟩
      have hr6 := HRR.out w6 hg6
      have c26 : w6.cell? ⟨c, 2, none⟩ = some (.slice (some ⟨g, 0, none⟩) m cap) := (cell_of_row _ _ 2 _ _ _ hr6).trans rfl
      have z26 := frozen_of_row _ _ 2 _ _ hr6
      have HPP : Hid ((P1 ++ ({ p with ws := ws' } : Pg) :: P2).take k ++ (P1 ++ ({ p with ws := ws' } : Pg) :: P2).drop (k + 1) = P1 ++ P2) := Lib.hid (by
        have hk := HK.out
        subst hk
        simp)
      have HL2 : Hid ((P1 ++ P2).length = m - 1) := Lib.hid (by have := HLEN.out; rw [List.length_append, List.length_cons] at this; rw [List.length_append]; omega)
      rw [HPP.out] at ho6
      have mem : ∀ x ∈ P1 ++ P2, x ∈ P1 ++ ({ p with ws := ws' } : Pg) :: P2 := fun x hx => by
        rcases List.mem_append.1 hx with hx | hx
        · exact List.mem_append_left _ hx
        · exact List.mem_append_right _ (List.mem_cons_of_mem _ hx)
      have h7 : SGx W K (w6.setCell ⟨c, 2, none⟩ (.slice (some ⟨g, 0, none⟩) (m - 1) cap)) c b size M top gm gw mu n l' (some ⟨g, 0, none⟩) cap (P1 ++ P2) := by
        have key := H5.out.lay (w' := w6) (P' := P1 ++ P2) (A' := some ⟨g, 0, none⟩) (cap' := cap) hg6 (by rw [HL2.out]; exact ho6) (fun g2 hg2 => .inl hg2) (fun x hx => H5.out.maps x (mem x hx)) (H5.out.gws.sublist (List.Sublist.append (List.Sublist.refl _) (List.sublist_cons_self _ _))) (H5.out.rise.sublist (List.Sublist.append (List.Sublist.refl _) (List.sublist_cons_self _ _))) (fun x hx => H5.out.pnew x (mem x hx)) (fun x hx => H5.out.sep x (mem x hx)) (fun x hx y hy => H5.out.kpg x hx y (mem y hy))
        rw [HL2.out] at key
        exact key
      have H7 := Lib.hid h7
      clear h7 mem ho6 hg6 hr6
      go_wp2
      go_ret
      exact ⟨rfl, .inr ⟨HQ.out, H7.out⟩⟩
  · have q0 : (C == 0) = false := by simp only [beq_eq_false_iff_ne, ne_eq]; omega
    have HQ := Lib.hid q
    clear q hC
    go_wp2_with fail
    refine (count_lit w4 G p.gw M ws' C HC.out M4.out).mono ?_
    rintro e w' ⟨rfl, hw'⟩
    have hw2 := hw'.symm
    clear hw'
    subst hw2
    go_wp2
    go_ret
    exact ⟨rfl, .inl ⟨HQ.out, H4.out⟩⟩
end Go.Proofs.YtbadoihpbemjjaaDoor
