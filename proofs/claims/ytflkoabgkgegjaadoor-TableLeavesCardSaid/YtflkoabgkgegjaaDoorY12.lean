/- The contract of New. Condition: the table of TrailingZeros64. And what follows from it. -/
import Derived.Test.YtflkoabgkgegjaaDoorY8
import Derived.Test.YtflkoabgkgegjaaDoorY9
import Derived.Test.YtflkoabgkgegjaaDoorY10
import Derived.Test.YtflkoabgkgegjaaDoorY11
/- The contract of New. Condition: the table of TrailingZeros64. -/
namespace Go.Proofs.YtflkoabgkgegjaaDoor
open Go.RowKit Go.Maps
theorem onescount_any (x : Nat) (hx : x < 18446744073709551616) (w : World) : Calls Tryd.prog 46 #[.int .u64 (x : Int)] w fun e w' => e = .returned (.int .i64 ((pop x : Nat) : Int)) ∧ w' = w := by
  go_enter Tryd.func46, Tryd.ntmps46
  go_wp2_with (go_at_call 61; refine (ones_any x hx _).mono ?_; rintro e w' ⟨rfl, rfl⟩)
  go_ret
  exact ⟨rfl, rfl⟩
theorem trail_any (x : Nat) (hx : x < 18446744073709551616) (w : World) (hT : TabZ w) : Calls Tryd.prog 47 #[.int .u64 (x : Int)] w fun e w' => e = .returned (.int .i64 ((Lib.ctz 64 x : Nat) : Int)) ∧ w' = w := by
  go_enter Tryd.func47, Tryd.ntmps47
  go_wp2_with (go_at_call 65; refine (tz_any x hx _ hT).mono ?_; rintro e w' ⟨rfl, rfl⟩)
  go_ret
  exact ⟨rfl, rfl⟩
theorem ctz_pow (k : Nat) (hk : k < 64) : Lib.ctz 64 (2 ^ k) = k := by
  have h1 : (2 : Nat) ^ k < 2 ^ 64 := Nat.pow_lt_pow_right (by omega) hk
  obtain ⟨a, b, c⟩ := ctz_bits (2 ^ k) (by have := two_pos k; omega) (by simpa using h1)
  by_cases e : Lib.ctz 64 (2 ^ k) = k
  · exact e
  · rw [Nat.testBit_two_pow] at b
    simp at b
    exact absurd b.symm e
theorem pop_pow (k : Nat) (hk : k < 64) : pop (2 ^ k) = 1 := by
  have := pop_on 0 k hk (by simp)
  rw [Nat.zero_xor] at this
  rw [this]
  rfl
def pRow (top : Nat) (gm : Nat → Nat) (mu k : Nat) : List Value :=
  .int .i64 (top : Int) :: ((List.range 21).map fun j => if j < k then .pointer (some ⟨gm j, 0, none⟩) else .pointer none) ++ [.map (some mu)]
structure PSt (W w : World) (b top : Nat) (gm gw : Nat → Nat) (mu k : Nat) : Prop where
  way : Below W.heap.size W w
  lo : W.heap.size ≤ b
  row : w.heap[b]? = some (.cells (pRow top gm mu k).toArray 97 (0, 0))
  maps : ∀ j, j < k → MapAt w (gm j) (gw j) (2 ^ (top - j)) (List.replicate ((2 ^ (top - j) + 63) / 64) 0)
  wnew : ∀ j, j < k → W.heap.size ≤ gw j
  inj : ∀ i j, i < k → j < k → gw i = gw j → i = j
  used : UsedAt w mu 0 (fun _ => none)
  unew : W.heap.size ≤ mu
theorem PSt.cell {W w : World} {b top : Nat} {gm gw : Nat → Nat} {mu k : Nat} (h : PSt W w b top gm gw mu k) (i : Nat) : w.cell? ⟨b, i, none⟩ = (pRow top gm mu k)[i]? := by
  rw [cell_of_row _ _ _ _ _ _ h.row]; simp
theorem pRow_length (top : Nat) (gm : Nat → Nat) (mu k : Nat) : (pRow top gm mu k).length = 23 := by simp [pRow]
theorem PSt.has {W w : World} {b top : Nat} {gm gw : Nat → Nat} {mu k : Nat} (h : PSt W w b top gm gw mu k) (i : Nat) (hi : i < 23) : ∃ v, w.cell? ⟨b, i, none⟩ = some v := by
  rw [h.cell]
  exact ⟨_, List.getElem?_eq_getElem (by rw [pRow_length]; exact hi)⟩
theorem PSt.c0 {W w : World} {b top : Nat} {gm gw : Nat → Nat} {mu k : Nat} (h : PSt W w b top gm gw mu k) : w.cell? ⟨b, 0, none⟩ = some (.int .i64 (top : Int)) := h.cell 0
theorem frozen_of_row (w : World) (g i : Nat) (t : TypeId) (xs : Array Value) (h : w.heap[g]? = some (.cells xs t (0, 0))) : w.frozen? ⟨g, i, none⟩ = false := by
  simp [World.frozen?, h]
theorem PSt.drew {W w : World} {b top : Nat} {gm gw : Nat → Nat} {mu k : Nat} (h : PSt W w b top gm gw mu k) : PSt W w.drew b top gm gw mu k :=
  ⟨h.way.trans ((Below.refl _ _).drew.mono h.way.size), h.lo, h.row, h.maps, h.wnew, h.inj, h.used, h.unew⟩
theorem pRow_set (top : Nat) (gm : Nat → Nat) (mu k g : Nat) (hk : k < 21) : (pRow top gm mu k).set (1 + k) (.pointer (some ⟨g, 0, none⟩)) = pRow top (fun j => if j = k then g else gm j) mu (k + 1) := by
  apply List.ext_getElem?
  intro i
  rw [List.getElem?_set, pRow_length]
  unfold pRow
  cases i with
  | zero => rw [if_neg (by omega)]; rfl
  | succ i =>
    simp only [List.cons_append, List.getElem?_cons_succ]
    by_cases hi : i < 21
    · rw [List.getElem?_append_left (by simpa using hi), List.getElem?_append_left (by simpa using hi)]
      simp only [List.getElem?_map, List.getElem?_range hi, Option.map_some]
      by_cases e : i = k
      · subst e
        rw [if_pos (by omega), if_pos (by omega)]
        simp
      · rw [if_neg (by omega)]
        by_cases q : i < k
        · simp [q, e]; omega
        · simp [q]; omega
    · rw [if_neg (by omega), List.getElem?_append_right (by simpa using hi), List.getElem?_append_right (by simpa using hi)]
      simp
theorem PSt.store {W w w' : World} {b top : Nat} {gm gw : Nat → Nat} {mu k : Nat} (h : PSt W w b top gm gw mu k) (i : Nat) (hi : i < 21) (hb : Below w.heap.size w w') : (∃ v, w'.cell? ⟨b, 1 + i, none⟩ = some v) ∧ w'.frozen? ⟨b, 1 + i, none⟩ = false := by
  have hr := (hb.block b (blt h.row)).trans h.row
  refine ⟨?_, frozen_of_row _ _ _ _ _ hr⟩
  rw [cell_of_row _ _ _ _ _ _ hr]
  exact ⟨_, by rw [List.getElem?_toArray]; exact List.getElem?_eq_getElem (by rw [pRow_length]; omega)⟩
/-- a map is laid and stored -/
theorem PSt.step {W w w' : World} {b top : Nat} {gm gw : Nat → Nat} {mu k : Nat} (h : PSt W w b top gm gw mu k) (hk : k < 21) (hb : Below w.heap.size w w') (g1 g0 : Nat) (hm : MapAt w' g1 g0 (2 ^ (top - k)) (List.replicate ((2 ^ (top - k) + 63) / 64) 0)) (hg0 : w.heap.size ≤ g0) (hg1 : w.heap.size ≤ g1) :
    PSt W (w'.setCell ⟨b, 1 + k, none⟩ (.pointer (some ⟨g1, 0, none⟩))) b top (fun j => if j = k then g1 else gm j) (fun j => if j = k then g0 else gw j) mu (k + 1) := by
  have hbl := blt h.row
  have hrow := (hb.block b hbl).trans h.row
  have hg : w'.grownBy (w'.setCell ⟨b, 1 + k, none⟩ (.pointer (some ⟨g1, 0, none⟩))) (some b) := gb_set (World.grownBy.refl _ _) _ _
  have hway := h.way.trans (hb.mono h.way.size)
  have keep : ∀ (g : Nat) (o : Obj), w'.heap[g]? = some o → g ≠ b → (w'.setCell ⟨b, 1 + k, none⟩ (.pointer (some ⟨g1, 0, none⟩))).heap[g]? = some o := fun g o ho hne => (hg.block g (blt ho) (fun e => hne (by injection e))).trans ho
  have hnb : ∀ (g : Nat) (xs : Array Value) (t : TypeId), w'.heap[g]? = some (.cells xs t (0, 0)) → t ≠ 97 → g ≠ b := fun g xs t hh ht e => by
    subst e
    rw [hrow] at hh
    injection hh with hh
    injection hh with _ h2
    exact ht h2.symm
  have kmap : ∀ (a c n : Nat) (ws : List Nat), MapAt w' a c n ws → MapAt (w'.setCell ⟨b, 1 + k, none⟩ (.pointer (some ⟨g1, 0, none⟩))) a c n ws := fun a c n ws m =>
    ⟨keep _ _ m.1 (hnb _ _ _ m.1 (by decide)), keep _ _ m.2.1 (hnb _ _ _ m.2.1 (by decide)), m.2.2⟩
  refine ⟨hway.trans (grownBy_below hg h.lo hway.size), h.lo, ?_, fun j hj => ?_, fun j hj => ?_, fun i j hi hj e => ?_, ?_, h.unew⟩
  · rw [heap_setCell_same w' b (1 + k) _ _ _ hrow, List.setIfInBounds_toArray, pRow_set _ _ _ _ _ hk]
  · by_cases e : j = k
    · subst e
      simp only [if_true]
      exact kmap _ _ _ _ hm
    · simp only [if_neg e]
      exact kmap _ _ _ _ ((h.maps j (by omega)).below hb)
  · by_cases e : j = k
    · simp only [if_pos e]
      exact Nat.le_trans h.way.size hg0
    · simp only [if_neg e]
      exact h.wnew j (by omega)
  · by_cases e1 : i = k
    · by_cases e2 : j = k
      · omega
      · simp only [if_pos e1, if_neg e2] at e
        have := (h.maps j (by omega)).lt.2
        omega
    · by_cases e2 : j = k
      · simp only [if_pos e2, if_neg e1] at e
        have := (h.maps i (by omega)).lt.2
        omega
      · simp only [if_neg e2, if_neg e1] at e
        exact h.inj i j (by omega) (by omega) e
  · obtain ⟨D, ⟨es, cl, h1, h2⟩, h3⟩ := h.used
    refine ⟨D, ⟨es, cl, keep _ _ ((hb.block mu (blt h1)).trans h1) (fun e => ?_), h2⟩, h3⟩
    subst e
    rw [h.row] at h1
    injection h1 with h1
    cases h1
theorem PSt.done {W w : World} {b top : Nat} {gm gw : Nat → Nat} {mu : Nat} (h : PSt W w b top gm gw mu (top + 1)) (ht : top ≤ 20) : BSt W W [] w b top gm gw mu 0 (fun _ _ => false) (fun _ => none) :=
  ⟨h.way, .of_below h.way, ht, by
    rw [h.row]
    congr 3
    unfold pRow bRow
    congr 2
    apply List.map_congr_left
    intro j _
    by_cases e : j ≤ top
    · rw [if_pos e, if_pos (by omega)]
    · rw [if_neg e, if_neg (by omega)], fun k hk => ⟨_, h.maps k (by omega), fun i _ => bitW_new _ _⟩, fun k hk => h.wnew k (by omega), fun i j hi hj => h.inj i j (by omega) (by omega), h.used, h.unew, fun s hs => absurd hs List.not_mem_nil⟩
theorem PSt.start (w : World) (top : Nat) (cs : Array Value) (hcs : cs = (pRow top (fun _ => 0) w.heap.size 0).toArray) : PSt w ((w.alloc (.map #[] 0)).alloc (.cells cs 97)) (w.heap.size + 1) top (fun _ => 0) (fun _ => 0) w.heap.size 0 := by
  subst hcs
  have e1 := heap_alloc_new (w.alloc (.map #[] 0)) (.cells (pRow top (fun _ => 0) w.heap.size 0).toArray 97)
  rw [World.size_alloc] at e1
  exact ⟨((Below.refl _ _).alloc (Nat.le_refl _) _).alloc (by simp) _, Nat.le_succ _, e1, fun j hj => absurd hj (Nat.not_lt_zero _), fun j hj => absurd hj (Nat.not_lt_zero _), fun i j hi => absurd hi (Nat.not_lt_zero _), (UsedAt.made w).grown (World.grownBy_alloc _ _ none) (by simp), Nat.le_refl _⟩
set_option maxRecDepth 100000 in
set_option maxHeartbeats 1600000 in
theorem new_b (N top : Nat) (NN : Int) (hNN : NN = (N : Int)) (hN : N = 1024 * 2 ^ top) (h6 : 6 ≤ top) (ht : top ≤ 20) (w : World) (hT : TabZ w) : Calls Tryd.prog 22 #[.int .i64 NN] w fun e w' => ∃ b gm gw mu, e = .returned (.pointer (some ⟨b, 0, none⟩)) ∧ BSt w w [] w' b top gm gw mu 0 (setF (fun _ _ => false) top 0 true) (fun _ => none) := by
  have hp : 2 ^ top ≤ 2 ^ 20 := Nat.pow_le_pow_right (by decide) ht
  have hp6 : 2 ^ 6 ≤ 2 ^ top := Nat.pow_le_pow_right (by decide) h6
  have t1 : decide (NN < 65536) = false := decide_eq_false (by omega)
  have t2 : decide (1073741824 < NN) = false := decide_eq_false (by omega)
  have z1 : IntKind.u64.wrap NN = (N : Int) := by rw [IntKind.wrap_u64]; omega
  obtain ⟨Q, hQ⟩ : ∃ Q : Int, NN.tdiv 1024 = Q := ⟨_, rfl⟩
  have hQ2 : Q = ((2 ^ top : Nat) : Int) := by
    rw [← hQ, hNN, Int.tdiv_eq_ediv_of_nonneg (by omega), hN]
    omega
  have z2 : wrap64 Q = Q := by unfold wrap64; omega
  have z3 : IntKind.u64.wrap Q = ((2 ^ top : Nat) : Int) := by rw [IntKind.wrap_u64]; omega
  have HN := Lib.hid hN
  have HT := Lib.hid hT
  have PN : Hid (pop N = 1) := Lib.hid (by rw [hN, show 1024 * 2 ^ top = 2 ^ (top + 10) by rw [Nat.pow_add, Nat.mul_comm]]; exact pop_pow _ (by omega))
  have hNl : Hid (N < 18446744073709551616) := Lib.hid (by omega)
  have hpl : Hid (2 ^ top < 18446744073709551616) := Lib.hid (by omega)
  have hmm := @run_makeMap Tryd.prog
  clear hp hp6 hNN hN hT hQ2 h6
  go_enter Tryd.func22, Tryd.ntmps22
  go_wp2_with fail
  refine (onescount_any N hNl.out _).mono ?_
  rintro e w' ⟨rfl, rfl⟩
  rw [PN.out]
  go_wp2_with fail
  refine (trail_any (2 ^ top) hpl.out _ HT.out).mono ?_
  rintro e w' ⟨rfl, rfl⟩
  rw [ctz_pow top (by omega)]
  obtain ⟨T, hTT⟩ : ∃ T : Int, (top : Int) = T := ⟨_, rfl⟩
  have HTT := Lib.hid hTT
  rw [hTT]
  obtain ⟨T1, hT1⟩ : ∃ T1 : Int, T + 1 = T1 := ⟨_, rfl⟩
  have HT1 := Lib.hid hT1
  have zT : IntKind.i64.wrap (T + 1) = T1 := by rw [IntKind.wrap_i64]; omega
  clear hT1 hTT t1 t2 z1 z2 z3
  go_wp2_with fail
  rename World => w0
  obtain ⟨mu, hmu⟩ : ∃ mu, mu = w0.heap.size := ⟨_, rfl⟩
  obtain ⟨b, hb⟩ : ∃ b, b = mu + 1 := ⟨_, rfl⟩
  rw [← hmu, ← hb]
  have HMU := Lib.hid hmu
  have HBB := Lib.hid hb
  clear hmu hb hmm
  go_loopw [4, 29] (fun v4 v29 wr => ∃ (k : Nat) (gm gw : Nat → Nat), k ≤ top + 1 ∧ v29 = .int .i64 (k : Int) ∧ PSt w0 wr b top gm gw mu k) (fun _ v29 _ => top + 1 - (intOf v29).toNat)
  case atStart =>
    refine ⟨0, fun _ => 0, fun _ => 0, by omega, rfl, ?_⟩
    rw [HBB.out, HMU.out]
    exact PSt.start _ _ _ (by rw [← HTT.out]; rfl)
  case round =>
    obtain ⟨k, gm, gw, hk, rfl, h⟩ := hrel
    have H := Lib.hid h
    have c0 := h.c0
    rw [HTT.out] at c0
    clear h
    by_cases q : k ≤ top
    · have q1 : decide ((k : Int) < T1) = true := decide_eq_true (by have := HTT.out; have := HT1.out; omega)
      have k0 : (0 : Int) ≤ (k : Int) := by omega
      have k1 : (k : Int) < 21 := by omega
      obtain ⟨S, hS⟩ : ∃ S : Int, S = ((2 ^ (top - k) : Nat) : Int) := ⟨_, rfl⟩
      have hpk : 2 ^ (top - k) ≤ 2 ^ 20 := Nat.pow_le_pow_right (by decide) (by omega)
      have HPK := Lib.hid hpk
      obtain ⟨T2, hT2⟩ : ∃ T2 : Int, T2 = ((top - k : Nat) : Int) := ⟨_, rfl⟩
      have hs : ∀ w, (Op.shift .shl .i64 1 .i64 T2).run Tryd.prog w = .ok (.int .i64 S) w := fun w => run_shl 1 (top - k) _ _ _ rfl hT2 (by rw [hS, Nat.one_mul]) (by omega) (by omega) w
      have zs : IntKind.i64.wrap (T - (k : Int)) = T2 := by have := HTT.out; rw [IntKind.wrap_i64]; omega
      have HS := Lib.hid hS
      clear hS hT2 hpk
      have c0d : wr.drew.cell? ⟨b, 0, none⟩ = some (.int .i64 T) := c0
      clear hk
      go_wp2_with fail
      go_region_law (first | (go_simp; go_at_call 41; (with_reducible refine (new_lit (2 ^ (top - k)) S HS.out _ (by have := HPK.out; omega)).mono ?_); rintro e w8 ⟨rfl, hm, hbw⟩; obtain ⟨⟨v8, hv8⟩, hf8⟩ := H.out.drew.store k (by omega) hbw))
      all_goals
        have hP := H.out.drew.step (by omega) hbw _ _ hm (Nat.le_refl _) (Nat.le_succ _)
        have HP := Lib.hid hP
        clear hP hm hbw
        go_wp2
        go_roundw
        case rel => exact ⟨k + 1, _, _, by omega, by go_num, HP.out⟩
        case measure => (try simp [intOf]) <;> omega
    · have q1 : decide ((k : Int) < T1) = false := decide_eq_false (by have := HTT.out; have := HT1.out; omega)
      have e : k = top + 1 := by omega
      have hP := H.out
      rw [e] at hP
      have hB := hP.done ht
      clear hP e q hk
      have HB := Lib.hid hB
      have ct := hB.ck top (Nat.le_refl _)
      clear hB c0
      have t20 : T < 21 := by have := HTT.out; omega
      have t00 : (0 : Int) ≤ T := by have := HTT.out; omega
      have cz := HB.out.c0
      rw [HTT.out] at cz
      have cT : ∀ w' F', BSt w0 w0 [] w' b top gm gw mu 0 F' (fun _ => none) → w'.cell? ⟨b, 1 + T.toNat, none⟩ = some (.pointer (some ⟨gm top, 0, none⟩)) ∧ w'.cell? ⟨b, 0, none⟩ = some (.int .i64 T) := fun w' F' h => ⟨by rw [show T.toNat = top by have := HTT.out; omega]; exact h.ck top (Nat.le_refl _), by rw [h.c0, HTT.out]⟩
      have KT := Lib.hid cT
      clear cT ct cz
      obtain ⟨c1, c2⟩ := KT.out _ _ HB.out
      have hS := HB.out
      have hSd := HB.out.drew
      go_wp2_with fail
      go_region_held3 (fun w' => w'.cell? ⟨b, 1 + T.toNat, none⟩ = some (.pointer (some ⟨gm top, 0, none⟩)) ∧ w'.cell? ⟨b, 0, none⟩ = some (.int .i64 T)) (first | (exact KT.out _ _ (by assumption)) | (exact KT.out _ _ (BSt.alloc (by assumption) _)) | (exact KT.out _ _ (BSt.alloc hS _).drew)) (first | (go_at_call 42; (with_reducible refine (set_b hSd top (Nat.le_refl _) true 0 0 rfl (two_pos _) 1 rfl _ rfl).mono ?_); rintro e w9 ⟨rfl, h9⟩) | (go_at_call 42; (with_reducible refine (set_bd hS top (Nat.le_refl _) true 0 0 rfl (two_pos _) 1 rfl _ rfl).mono ?_); rintro e w9 ⟨rfl, h9⟩))
      all_goals
        have H9 := Lib.hid h9
        clear h9 c1 c2 hS hSd
        go_wp2
        go_ret
        exact ⟨b, gm, gw, mu, rfl, H9.out⟩
end Go.Proofs.YtflkoabgkgegjaaDoor
/- The contract of Left; the allocator with its tiles. Condition: the allocator's state is held. -/
namespace Go.Proofs.YtflkoabgkgegjaaDoor
open Go.RowKit Go.Maps
variable {V W w : World} {S : List (Option Addr × List Value)} {b top : Nat} {gm gw : Nat → Nat} {mu n : Nat} {F : Nat → Nat → Bool} {U : Int → Option Nat}

theorem SlR.blk' {w : World} {A : Option Addr} {L : List (Nat × Nat)} (h : SlR w A (bCells L)) {k : Nat} (hk : k < L.length) : ∃ b off, A = some ⟨b, off, none⟩ ∧ b < w.heap.size ∧ w.cell? ⟨b, off + k * 2, none⟩ = some (.int .i64 ((1024 * L[k].1 : Nat) : Int)) ∧ w.cell? ⟨b, off + k * 2 + 1, none⟩ = some (.int .i64 (L[k].2 : Int)) := by
  obtain ⟨b, off, h1, h2, h3, h4⟩ := h.blk hk
  exact ⟨b, off, h1, h2, h3, by rw [Nat.add_assoc]; exact h4⟩
/-- the bytes of some blocks -/
def leftB (L : List (Nat × Nat)) : Nat := (L.map fun x => 1024 * 2 ^ x.2).sum
theorem leftB_take (L : List (Nat × Nat)) (k : Nat) (hk : k < L.length) : leftB (L.take (k + 1)) = leftB (L.take k) + 1024 * 2 ^ L[k].2 := by
  have e : L.take (k + 1) = L.take k ++ [L[k]] := by rw [List.take_add_one, List.getElem?_eq_getElem hk]; rfl
  unfold leftB
  rw [e]
  simp only [List.map_append, List.sum_append, List.map_cons, List.map_nil, List.sum_cons, List.sum_nil, Nat.add_zero]
theorem leftB_le : ∀ (L : List (Nat × Nat)) (k : Nat), leftB (L.take k) ≤ leftB L
  | [], k => by simp [leftB]
  | x :: L, 0 => by simp [leftB]
  | x :: L, k + 1 => by
    have := leftB_le L k
    simp only [leftB, List.take_succ_cons, List.map_cons, List.sum_cons] at this ⊢
    omega
theorem leftB_span (f : Bool) : ∀ (p : Nat) (l : List Tl), leftB (blks f p l) ≤ 1024 * span l
  | _, [] => by simp [blks, leftB]
  | p, t :: l => by
    have := leftB_span f (p + 2 ^ t.1) l
    simp only [blks, span]
    split
    · simp only [leftB, List.map_cons, List.sum_cons] at this ⊢
      omega
    · have := two_pos t.1
      omega
theorem blks_length (f : Bool) : ∀ (p : Nat) (l : List Tl), (blks f p l).length ≤ span l
  | _, [] => by simp [blks, span]
  | p, t :: l => by
    have := blks_length f (p + 2 ^ t.1) l
    have := two_pos t.1
    simp only [blks, span]
    split
    · simp only [List.length_cons]; omega
    · omega
/-- an allocator with its tiles -/
structure BG (V W : World) (S : List (Option Addr × List Value)) (w : World) (b top : Nat) (gm gw : Nat → Nat) (mu n : Nat) (l : List Tl) : Prop where
  ex : ∃ F U, BSt V W S w b top gm gw mu n F U ∧ FRel F top l ∧ URel U l
  good : Good top l
variable {l : List Tl}
theorem BG.below {w' : World} (h : BG V W S w b top gm gw mu n l) (hb : Below w.heap.size w w') : BG V W S w' b top gm gw mu n l := by
  obtain ⟨F, U, h1, h2⟩ := h.ex
  exact ⟨⟨F, U, h1.below hb, h2⟩, h.good⟩
theorem BG.way (h : BG V W S w b top gm gw mu n l) : Below W.heap.size W w := by
  obtain ⟨F, U, h1, h2⟩ := h.ex
  exact h1.way
theorem BG.tle (h : BG V W S w b top gm gw mu n l) : top ≤ 20 := by
  obtain ⟨F, U, h1, h2⟩ := h.ex
  exact h1.tle
theorem BG.hold {s : Option Addr × List Value} (h : BG V W S w b top gm gw mu n l) (hs : HeldS w s) : BG V W (s :: S) w b top gm gw mu n l := by
  obtain ⟨F, U, h1, h2⟩ := h.ex
  exact ⟨⟨F, U, h1.hold hs, h2⟩, h.good⟩
theorem BG.sub {S' : List (Option Addr × List Value)} (h : BG V W S w b top gm gw mu n l) (hs : ∀ s ∈ S', s ∈ S) : BG V W S' w b top gm gw mu n l := by
  obtain ⟨F, U, h1, h2⟩ := h.ex
  exact ⟨⟨F, U, h1.sub hs, h2⟩, h.good⟩
theorem BG.held {s : Option Addr × List Value} (h : BG V W S w b top gm gw mu n l) (hs : s ∈ S) : HeldS w s := by
  obtain ⟨F, U, h1, h2⟩ := h.ex
  exact h1.held s hs
theorem BG.mono {n' : Nat} (h : BG V W S w b top gm gw mu n l) (hn : n ≤ n') : BG V W S w b top gm gw mu n' l := by
  obtain ⟨F, U, h1, h2⟩ := h.ex
  refine ⟨⟨F, U, ⟨h1.way, h1.stay, h1.tle, h1.row, h1.maps, h1.wnew, h1.inj, ?_, h1.unew, h1.held⟩, h2⟩, h.good⟩
  obtain ⟨D, hd, hr⟩ := h1.used
  exact ⟨D, hd.mono hn, hr⟩
end Go.Proofs.YtflkoabgkgegjaaDoor
