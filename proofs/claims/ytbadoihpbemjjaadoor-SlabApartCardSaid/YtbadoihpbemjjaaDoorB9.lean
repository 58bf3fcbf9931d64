/- The contract of Free, walked. Condition: the allocator's state is held, its tiles lie as they may. -/
import Derived.Test.YtbadoihpbemjjaaDoorB8
namespace Go.Proofs.YtbadoihpbemjjaaDoor
open Go.RowKit Go.Maps
variable {V W w : World} {S : List (Option Addr × List Value)} {b top : Nat} {gm gw : Nat → Nat} {mu n : Nat} {F : Nat → Nat → Bool} {U : Int → Option Nat}

/-- how far a place is from the end; none: 0 -/
def measF (N : Nat) (x : Int) : Nat := if x < 0 then 0 else N - x.toNat
theorem info_parts3 {t : TypeId} {z : Value} {s b : Nat} (h : (Tryd.prog.info? t).map (fun i => (i.zero, i.size, i.bytes)) = some (some z, s, b)) : ∃ i, Tryd.prog.info? t = some i ∧ i.zero = some z ∧ i.size = s ∧ i.bytes = b := info_parts h
set_option maxRecDepth 100000 in
set_option maxHeartbeats 3200000 in
theorem free_b (h : BSt V W S w b top gm gw mu n F U) (hT : TabZ W) (l : List Tl) (hg : Good top l) (hF : FRel F top l) :
    Calls Tryd.prog 13 #[.pointer (some ⟨b, 0, none⟩)] w fun e w' => ∃ A m cap, e = .returned (.slice A m cap) ∧ m = (blks true 0 l).length ∧ HeldS w' (A, bCells (blks true 0 l)) ∧ Below w.heap.size w w' := by
  obtain ⟨i0, hi0, hz0, hz1, hz2⟩ := info_parts info_blk
  have H := Lib.hid h
  have ht := h.tle
  have HT := Lib.hid hT
  have HG := Lib.hid hg
  have HF := Lib.hid hF
  obtain ⟨T, hTT⟩ : ∃ T : Int, (top : Int) = T := ⟨_, rfl⟩
  have HTT := Lib.hid hTT
  clear h hT hg hF hTT
  go_enter Tryd.func13, Tryd.ntmps13
  go_wp2
  go_loopw [3, 4] (fun o k wr => ∃ (j m : Nat) (A : Option Addr) (cap : Nat) (L : List (Nat × Nat)), k = .int .i64 (j : Int) ∧ j ≤ top + 1 ∧ o = .slice A m cap ∧ L.length = m ∧ wr.ownsRow w.heap.size 86 2 (.slice A m cap) m (bCells L) ∧ Got F top j 0 L ∧ Below w.heap.size w wr) (fun _ k _ => top + 1 - (intOf k).toNat)
  case atStart => exact ⟨0, 0, none, 0, [], rfl, by omega, rfl, rfl, World.ownsRow_nil _ _ _ _, Got.start F top, Below.refl _ _⟩
  case round =>
    obtain ⟨j, m, A, cap, L, rfl, hj, rfl, hL, hown, hgot, hb⟩ := hrel
    have HO := Lib.hid hown
    have HL := Lib.hid hL
    have HGo := Lib.hid hgot
    have HB := Lib.hid hb
    have hS := H.out.below hb
    have c0 := hS.c0
    rw [HTT.out] at c0
    have HS := Lib.hid hS
    by_cases q : j ≤ top
    · have q1 : decide ((j : Int) ≤ T) = true := decide_eq_true (by have := HTT.out; omega)
      have j0 : (0 : Int) ≤ (j : Int) := by omega
      have j1 : (j : Int) < 21 := by omega
      have c1 := hS.ck j q
      have TW : Hid (TabZ wr) := Lib.hid (HT.out.below HT.out.lt hS.way)
      clear hown hL hgot hb hS
      go_wp2_with fail
      refine (first_b HS.out TW.out j q 0 0 rfl (by omega)).mono ?_
      rintro e w' ⟨r, rfl, hr, rfl⟩
      have HR := Lib.hid hr
      clear hr
      rename World => w2
      go_wp2_with fail
      go_loopw [3, 5] (fun o i wr => ∃ (f m : Nat) (A : Option Addr) (cap : Nat) (L : List (Nat × Nat)) (r : Int), i = .int .i64 r ∧ FirstF F j (2 ^ (top - j)) f r ∧ f ≤ 2 ^ (top - j) ∧ o = .slice A m cap ∧ L.length = m ∧ wr.ownsRow w.heap.size 86 2 (.slice A m cap) m (bCells L) ∧ Got F top j f L ∧ Below w.heap.size w wr) (fun _ i _ => measF (2 ^ (top - j)) (intOf i))
      case atStart => exact ⟨0, m, A, cap, L, r, rfl, HR.out, Nat.zero_le _, rfl, HL.out, HO.out, HGo.out, HB.out⟩
      case round =>
        clear HR HO HL HGo HB HS
        obtain ⟨f, m, A, cap, L, r, rfl, hr, hf, rfl, hL, hown, hgot, hb⟩ := hrel
        have HO := Lib.hid hown
        have HL := Lib.hid hL
        have HGo := Lib.hid hgot
        have HB := Lib.hid hb
        have HFf := Lib.hid hf
        have hS := H.out.below hb
        have HS := Lib.hid hS
        have c1 := hS.ck j q
        have TW : Hid (TabZ wr) := Lib.hid (HT.out.below HT.out.lt hS.way)
        have htp : 2 ^ (top - j) ≤ 2 ^ 20 := Nat.pow_le_pow_right (by decide) (by omega)
        have HTP := Lib.hid htp
        clear hown hL hgot hb hS hf htp
        rcases hr with ⟨rfl, hn⟩ | ⟨i, rfl, hfi, hi, hbit, hn⟩
        · have HN := Lib.hid (HGo.out.next q ht HFf.out hn)
          clear hn
          go_wp2
          go_roundw
          case rel => exact ⟨j + 1, m, A, cap, L, by go_num, by omega, rfl, HL.out, HO.out, HN.out, HB.out⟩
          case measure => (try simp [intOf]) <;> omega
        · have HN := Lib.hid (HGo.out.add q hfi hi hbit hn)
          have HI := Lib.hid hi
          have p0 : decide ((0 : Int) ≤ (i : Int)) = true := decide_eq_true (by omega)
          have hil : i < 1048576 := by have := HTP.out; omega
          have HIL := Lib.hid hil
          obtain ⟨I, hI⟩ : ∃ I : Int, (i : Int) = I := ⟨_, rfl⟩
          obtain ⟨I2, hI2⟩ : ∃ I2 : Int, I * 1024 = I2 := ⟨_, rfl⟩
          obtain ⟨I3, hI3⟩ : ∃ I3 : Int, I + 1 = I3 := ⟨_, rfl⟩
          have z1 : IntKind.i64.wrap (I * 1024) = I2 := by rw [IntKind.wrap_i64]; omega
          have z2 : IntKind.i64.wrap (I + 1) = I3 := by rw [IntKind.wrap_i64]; omega
          have HIE := Lib.hid hI
          have HI3 : Hid (I3 = ((i + 1 : Nat) : Int)) := Lib.hid (by omega)
          obtain ⟨at_, hat_⟩ : ∃ at_ : Int, at_ = ((1024 * (i * 2 ^ j) : Nat) : Int) := ⟨_, rfl⟩
          have hij : i * 2 ^ j < 2 ^ top := (lt_of_mul q).1 hi
          have hij2 : 2 ^ top ≤ 2 ^ 20 := Nat.pow_le_pow_right (by decide) ht
          have z3 : IntKind.i64.wrap (I2 * 2 ^ j) = at_ := by
            have e1 : I2 * 2 ^ j = at_ := by
              rw [hat_, ← hI2, ← hI]
              push_cast
              rw [Int.mul_right_comm, Int.mul_comm]
            rw [e1, IntKind.wrap_i64]
            omega
          have hcells : bCells [(i * 2 ^ j, j)] = #[Value.int .i64 at_, .int .i64 (j : Int)].toList := by rw [hat_]; rfl
          have HC := Lib.hid hcells
          have hmb : m + 1 < 1073741824 := by
            have := HGo.out.len
            have := HL.out
            have := HFf.out
            have := HTP.out
            omega
          have HMB := Lib.hid hmb
          rw [hI] at p0
          simp only [hI]
          clear hfi hi hbit hn hil hI hI2 hI3 hij hij2 hat_ hcells hmb
          go_wp2_with (first | (at_builtin; refine wpList_app _ rfl (.tmp 36) (.tmp 43) 33 rfl w.heap.size 86 i0 _ 2 16 Tryd.underlying33 hi0 hz0 hz1 hz2 rfl (by omega) A m cap (bCells L) rfl (HO.out.alloc _) _ 1 1 (bCells [(i * 2 ^ j, j)]) rfl (by rfl) (by rw [HC.out]; exact SlR_new _ _ _) (bCells_one _) (by have := HMB.out; unfold maxLen; omega) (by have := HMB.out; omega) (by rw [World.size_alloc]; have := HB.out.size; omega) ?_; intro A3 k3 w3 hown3 hgr3 hb3; have HOW : Hid (w3.ownsRow w.heap.size 86 2 (.slice A3 (m + 1) k3) (m + 1) (bCells (L ++ [(i * 2 ^ j, j)]))) := Lib.hid (by rw [bCells_app]; exact hown3); have HB3 : Hid (Below w.heap.size w w3) := Lib.hid ((HB.out.alloc HB.out.size _).trans hb3); clear hown3 hgr3 hb3; have c9 := (H.out.below HB3.out).ck j q; clear c1) | fail)
          all_goals
            have HS3 := Lib.hid (H.out.below HB3.out)
            have TW3 : Hid (TabZ w3) := Lib.hid (HT.out.below HT.out.lt HS3.out.way)
            refine (first_b HS3.out TW3.out j q (i + 1) _ HI3.out (by have := HIL.out; omega)).mono ?_
            rintro e w' ⟨r, rfl, hr, rfl⟩
            have HR := Lib.hid hr
            clear hr c9
            go_wp2
            go_roundw
            case rel => exact ⟨i + 1, m + 1, A3, k3, L ++ [(i * 2 ^ j, j)], r, rfl, HR.out, HI.out, rfl, by rw [List.length_append, HL.out]; rfl, HOW.out, HN.out, HB3.out⟩
            case measure =>
              have := HI.out
              rw [← HIE.out]
              show measF _ r < measF _ (i : Int)
              unfold measF
              rw [if_neg (show ¬ ((i : Int) < 0) by omega)]
              rcases HR.out with ⟨rfl, _⟩ | ⟨i2, rfl, h2, h3, _⟩
              · rw [if_pos (by omega)]
                omega
              · rw [if_neg (by omega)]
                omega
    · have q1 : decide ((j : Int) ≤ T) = false := decide_eq_false (by have := HTT.out; omega)
      have e : j = top + 1 := by omega
      have hd : Got F top (top + 1) 0 L := by rw [← e]; exact hgot
      obtain ⟨d1, d2⟩ := hd.done HG.out HF.out
      have HD1 := Lib.hid d1
      have HD2 := Lib.hid d2
      have hmb : m < 1073741824 := by
        have := hgot.len
        have := HL.out
        omega
      have HMB := Lib.hid hmb
      clear hown hL hgot hb hS d1 d2 hd hmb e q
      go_wp2_with fail
      refine (sorted_b L HD2.out A cap m w.heap.size HL.out _ HO.out HB.out.size HMB.out).mono ?_
      rintro e w' ⟨M, rfl, hp, hri, hh, hb2⟩
      have hM : M = blks true 0 l := rises_eq hri (blks_rise true 0 l) fun x => by rw [hp.mem_iff]; exact HD1.out x
      have hlen : m = (blks true 0 l).length := by rw [← hM, hp.length_eq, HL.out]
      rw [hM] at hh
      have HE := Lib.hid (And.intro hlen (And.intro hh (HB.out.trans hb2)))
      clear hp hri hh hb2 hM hlen
      go_wp2
      go_ret
      exact ⟨A, m, cap, rfl, HE.out⟩
end Go.Proofs.YtbadoihpbemjjaaDoor
