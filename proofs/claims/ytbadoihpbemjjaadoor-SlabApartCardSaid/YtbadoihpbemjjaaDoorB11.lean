/- The contract of Left; the allocator with its tiles. Condition: the allocator's state is held. -/
import Derived.Test.YtbadoihpbemjjaaDoorB9
import Derived.Test.YtbadoihpbemjjaaDoorB2
import Derived.Test.YtbadoihpbemjjaaDoorB3
import Derived.Test.YtbadoihpbemjjaaDoorB4
namespace Go.Proofs.YtbadoihpbemjjaaDoor
open Go.RowKit Go.Maps
variable {V W w : World} {S : List (Option Addr × List Value)} {b top : Nat} {gm gw : Nat → Nat} {mu n : Nat} {F : Nat → Nat → Bool} {U : Int → Option Nat}

theorem SlR.blk' {w : World} {A : Option Addr} {L : List (Nat × Nat)} (h : SlR w A (bCells L)) {k : Nat} (hk : k < L.length) : ∃ b off, A = some ⟨b, off, none⟩ ∧ b < w.heap.size ∧ w.cell? ⟨b, off + k * 2, none⟩ = some (.int .i64 ((1024 * L[k].1 : Nat) : Int)) ∧ w.cell? ⟨b, off + k * 2 + 1, none⟩ = some (.int .i64 (L[k].2 : Int)) := by
  obtain ⟨b, off, h1, h2, h3, h4⟩ := h.blk hk
  exact ⟨b, off, h1, h2, h3, by rw [Nat.add_assoc]; exact h4⟩
/-- the bytes of some blocks -/
def leftB (L : List (Nat × Nat)) : Nat := (L.map fun x => 1024 * 2 ^ x.2).sum
theorem leftB_take (L : List (Nat × Nat)) (k : Nat) (hk : k < L.length) : leftB (L.take (k + 1)) = leftB (L.take k) + 1024 * 2 ^ L[k].2 := by
  have e : L.take (k + 1) = L.take k ++ [L[k]] := by rw [List.take_add_one, List.getElem?_eq_getElem hk]; rfl
  unfold leftB
  rw [e]
  simp only [List.map_append, List.sum_append, List.map_cons, List.map_nil, List.sum_cons, List.sum_nil, Nat.add_zero]
theorem leftB_le : ∀ (L : List (Nat × Nat)) (k : Nat), leftB (L.take k) ≤ leftB L
  | [], k => by simp [leftB]
  | x :: L, 0 => by simp [leftB]
  | x :: L, k + 1 => by
    have := leftB_le L k
    simp only [leftB, List.take_succ_cons, List.map_cons, List.sum_cons] at this ⊢
    omega
theorem leftB_span (f : Bool) : ∀ (p : Nat) (l : List Tl), leftB (blks f p l) ≤ 1024 * span l
  | _, [] => by simp [blks, leftB]
  | p, t :: l => by
    have := leftB_span f (p + 2 ^ t.1) l
    simp only [blks, span]
    split
    · simp only [leftB, List.map_cons, List.sum_cons] at this ⊢
      omega
    · have := two_pos t.1
      omega
theorem blks_length (f : Bool) : ∀ (p : Nat) (l : List Tl), (blks f p l).length ≤ span l
  | _, [] => by simp [blks, span]
  | p, t :: l => by
    have := blks_length f (p + 2 ^ t.1) l
    have := two_pos t.1
    simp only [blks, span]
    split
    · simp only [List.length_cons]; omega
    · omega
/-- an allocator with its tiles -/
structure BG (V W : World) (S : List (Option Addr × List Value)) (w : World) (b top : Nat) (gm gw : Nat → Nat) (mu n : Nat) (l : List Tl) : Prop where
  ex : ∃ F U, BSt V W S w b top gm gw mu n F U ∧ FRel F top l ∧ URel U l
  good : Good top l
variable {l : List Tl}
theorem BG.below {w' : World} (h : BG V W S w b top gm gw mu n l) (hb : Below w.heap.size w w') : BG V W S w' b top gm gw mu n l := by
  obtain ⟨F, U, h1, h2⟩ := h.ex
  exact ⟨⟨F, U, h1.below hb, h2⟩, h.good⟩
theorem BG.way (h : BG V W S w b top gm gw mu n l) : Below W.heap.size W w := by
  obtain ⟨F, U, h1, h2⟩ := h.ex
  exact h1.way
theorem BG.tle (h : BG V W S w b top gm gw mu n l) : top ≤ 20 := by
  obtain ⟨F, U, h1, h2⟩ := h.ex
  exact h1.tle
theorem BG.hold {s : Option Addr × List Value} (h : BG V W S w b top gm gw mu n l) (hs : HeldS w s) : BG V W (s :: S) w b top gm gw mu n l := by
  obtain ⟨F, U, h1, h2⟩ := h.ex
  exact ⟨⟨F, U, h1.hold hs, h2⟩, h.good⟩
theorem BG.sub {S' : List (Option Addr × List Value)} (h : BG V W S w b top gm gw mu n l) (hs : ∀ s ∈ S', s ∈ S) : BG V W S' w b top gm gw mu n l := by
  obtain ⟨F, U, h1, h2⟩ := h.ex
  exact ⟨⟨F, U, h1.sub hs, h2⟩, h.good⟩
theorem BG.held {s : Option Addr × List Value} (h : BG V W S w b top gm gw mu n l) (hs : s ∈ S) : HeldS w s := by
  obtain ⟨F, U, h1, h2⟩ := h.ex
  exact h1.held s hs
theorem BG.mono {n' : Nat} (h : BG V W S w b top gm gw mu n l) (hn : n ≤ n') : BG V W S w b top gm gw mu n' l := by
  obtain ⟨F, U, h1, h2⟩ := h.ex
  refine ⟨⟨F, U, ⟨h1.way, h1.stay, h1.tle, h1.row, h1.maps, h1.wnew, h1.inj, ?_, h1.unew, h1.held⟩, h2⟩, h.good⟩
  obtain ⟨D, hd, hr⟩ := h1.used
  exact ⟨D, hd.mono hn, hr⟩
theorem free_g (h : BG V W S w b top gm gw mu n l) (hT : TabZ W) :
    Calls Tryd.prog 13 #[.pointer (some ⟨b, 0, none⟩)] w fun e w' => ∃ A m cap, e = .returned (.slice A m cap) ∧ m = (blks true 0 l).length ∧ BG V W ((A, bCells (blks true 0 l)) :: S) w' b top gm gw mu n l ∧ Below w.heap.size w w' := by
  obtain ⟨F, U, h1, h2, h3⟩ := h.ex
  exact (free_b h1 hT l h.good h2).mono fun e w' ⟨A, m, cap, he, hm, hh, hb⟩ => ⟨A, m, cap, he, hm, (h.below hb).hold hh, hb⟩
set_option maxRecDepth 100000 in
set_option maxHeartbeats 1600000 in
theorem left_g (h : BG V W S w b top gm gw mu n l) (hT : TabZ W) : Calls Tryd.prog 15 #[.pointer (some ⟨b, 0, none⟩)] w fun e w' => e = .returned (.int .i64 ((leftB (blks true 0 l) : Nat) : Int)) ∧ BG V W S w' b top gm gw mu n l ∧ Below w.heap.size w w' := by
  have H := Lib.hid h
  have HT := Lib.hid hT
  have hle := leftB_span true 0 l
  have hsp := h.good.all
  have htp : 2 ^ top ≤ 2 ^ 20 := Nat.pow_le_pow_right (by decide) h.tle
  have HB : Hid (leftB (blks true 0 l) ≤ 1073741824) := Lib.hid (by rw [hsp] at hle; omega)
  have hlen := blks_length true 0 l
  have HLE : Hid ((blks true 0 l).length ≤ 1048576) := Lib.hid (by rw [hsp] at hlen; omega)
  have HO : Hid (∀ x ∈ blks true 0 l, x.2 ≤ 20) := Lib.hid (fun x hx => by
    obtain ⟨a, c, e, _⟩ := blks_mem hx
    have := h.good.le (x.2, true) (by rw [e]; simp)
    have := h.tle
    simp only at *
    omega)
  clear h hT hle hsp htp hlen
  go_enter Tryd.func15, Tryd.ntmps15
  go_wp2_with fail
  refine (free_g H.out HT.out).mono ?_
  rintro e w1 ⟨A, m, cap, rfl, hm, h1, hb1⟩
  obtain ⟨L, hL⟩ : ∃ L, blks true 0 l = L := ⟨_, rfl⟩
  rw [hL] at hm h1 HB HO HLE
  have HLL := Lib.hid hL
  have H1 := Lib.hid (h1.held List.mem_cons_self).sl
  have HB1 := Lib.hid hb1
  have HM := Lib.hid hm
  clear h1 hb1 hm hL
  go_wp2
  go_loopw [3, 9] (fun s i wr => ∃ k : Nat, k ≤ m ∧ i = .int .i64 (k : Int) ∧ s = .int .i64 ((leftB (L.take k) : Nat) : Int) ∧ Below w1.heap.size w1 wr) (fun _ i _ => m - (intOf i).toNat)
  case atStart => exact ⟨0, Nat.zero_le _, rfl, rfl, Below.refl _ _⟩
  case round =>
    obtain ⟨k, hk, rfl, rfl, hb⟩ := hrel
    have HBk := Lib.hid hb
    by_cases q : k < m
    · have q1 : (k : Int) < (m : Int) := by omega
      have q0 : (0 : Int) ≤ (k : Int) := by omega
      have hkl : k < L.length := by have := HM.out; omega
      obtain ⟨a, off, rfl, _, c0, c1⟩ := (H1.out.below hb).blk' hkl
      have hx2 := HO.out L[k] (List.getElem_mem hkl)
      obtain ⟨x1, hx1⟩ : ∃ x1 : Int, ((1024 * L[k].1 : Nat) : Int) = x1 := ⟨_, rfl⟩
      obtain ⟨x2, hx⟩ : ∃ x2 : Nat, L[k].2 = x2 := ⟨_, rfl⟩
      rw [hx1] at c0
      rw [hx] at c1 hx2
      obtain ⟨X, hX⟩ : ∃ X : Int, (x2 : Int) = X := ⟨_, rfl⟩
      rw [hX] at c1
      obtain ⟨Z, hZ⟩ : ∃ Z : Int, Z = ((1024 * 2 ^ x2 : Nat) : Int) := ⟨_, rfl⟩
      have hp : 2 ^ x2 ≤ 2 ^ 20 := Nat.pow_le_pow_right (by decide) hx2
      have hs : ∀ w, (Op.shift .shl .i64 1024 .i64 X).run Tryd.prog w = .ok (.int .i64 Z) w := fun w => run_shl 1024 x2 _ _ _ rfl hX.symm hZ (by omega) (by omega) w
      have e1 := leftB_take L k hkl
      have e2 := leftB_le L (k + 1)
      rw [hx] at e1
      obtain ⟨Y, hY⟩ : ∃ Y : Int, ((leftB (L.take k) : Nat) : Int) = Y := ⟨_, rfl⟩
      obtain ⟨Y2, hY2⟩ : ∃ Y2 : Int, Y + Z = Y2 := ⟨_, rfl⟩
      have hY3 : Y2 = ((leftB (L.take (k + 1)) : Nat) : Int) := by rw [e1, ← hY2, ← hY, hZ]; push_cast; rfl
      have z1 : IntKind.i64.wrap (Y + Z) = Y2 := by rw [hY2, hY3, IntKind.wrap_i64]; have := HB.out; omega
      have zk : IntKind.i64.wrap ((k : Int) + 1) = (k : Int) + 1 := by rw [IntKind.wrap_i64]; have := HLE.out; have := HM.out; omega
      have HY3 := Lib.hid hY3
      have km : Hid (k + 1 ≤ m) := Lib.hid q
      rw [hY]
      clear hb hx1 hx hX hZ hp e1 e2 hY hY2 hY3 hx2 hkl
      go_wp2
      go_roundw
      case rel => exact ⟨k + 1, km.out, by go_num, by rw [HY3.out], HBk.out.alloc HBk.out.size _⟩
      case measure => (try simp [intOf]) <;> omega
    · have q1 : ¬ ((k : Int) < (m : Int)) := by omega
      have e : k = m := by omega
      have e2 : L.take k = L := by rw [e, HM.out]; exact List.take_length
      rw [e2]
      have HBW := Lib.hid (HB1.out.trans (hb.mono HB1.out.size))
      clear e e2 hb q
      go_wp2
      go_ret
      exact ⟨by rw [HLL.out]; rfl, H.out.below HBW.out, HBW.out⟩
end Go.Proofs.YtbadoihpbemjjaaDoor
