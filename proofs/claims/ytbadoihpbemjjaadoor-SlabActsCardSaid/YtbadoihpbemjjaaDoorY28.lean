/- The acts of SlabApart. Condition: the acts are read. -/
import Derived.Test.YtbadoihpbemjjaaDoorY27
/- The acts of SlabApart. Condition: the acts are read. -/
namespace Go.Proofs.YtbadoihpbemjjaaDoor
open Go.RowKit Go.Maps
variable {W w w' : World} {c1 c2 b s1 M1 s2 M2 top n : Nat} {l : List Tl} {P1 P2 : List Pg}

def actCells (l : List (Int × Int)) : List Value := l.flatMap fun x => [.int .i64 x.1, .int .i64 x.2]
theorem actCells_length : ∀ l : List (Int × Int), (actCells l).length = l.length * 2
  | [] => rfl
  | x :: l => by
    have := actCells_length l
    simp only [actCells, List.flatMap_cons, List.length_append, List.length_cons, List.length_nil] at this ⊢
    omega
theorem actCells_at : ∀ (l : List (Int × Int)) (k : Nat) (x : Int × Int), l[k]? = some x → (actCells l)[k * 2]? = some (.int .i64 x.1) ∧ (actCells l)[k * 2 + 1]? = some (.int .i64 x.2)
  | [], k, x, h => by simp at h
  | y :: l, 0, x, h => by
    simp only [List.getElem?_cons_zero, Option.some.injEq] at h
    subst h
    exact ⟨rfl, rfl⟩
  | y :: l, k + 1, x, h => by
    have := actCells_at l k x (by simpa using h)
    simp only [actCells, List.flatMap_cons] at this ⊢
    rw [show (k + 1) * 2 = k * 2 + 2 by omega, show k * 2 + 2 + 1 = k * 2 + 1 + 2 by omega]
    exact this
theorem SlR.act {w : World} {A : Option Addr} {l : List (Int × Int)} (h : SlR w A (actCells l)) {k : Nat} (hk : k < l.length) : ∃ b off, A = some ⟨b, off, none⟩ ∧ b < w.heap.size ∧ w.cell? ⟨b, off + k * 2, none⟩ = some (.int .i64 l[k].1) ∧ w.cell? ⟨b, off + k * 2 + 1, none⟩ = some (.int .i64 l[k].2) := by
  obtain ⟨b, off, e, hlt, hc⟩ := h (fun e => by have := actCells_length l; rw [e] at this; simp at this; omega)
  have h2 := actCells_at l k l[k] (List.getElem?_eq_getElem hk)
  exact ⟨b, off, e, hlt, hc _ _ h2.1, by rw [Nat.add_assoc]; exact hc _ _ h2.2⟩
theorem SG2.monon {n' : Nat} (h : SG2 W w c1 c2 b s1 M1 s2 M2 top n l P1 P2) (hn : n ≤ n') : SG2 W w c1 c2 b s1 M1 s2 M2 top n' l P1 P2 := by
  obtain ⟨gm, gw, mu, A1, cap1, A2, cap2, h1, h2, h3⟩ := h
  exact ⟨gm, gw, mu, A1, cap1, A2, cap2, h1.monon hn, h2.monon hn, h3⟩
theorem gb_any {a b : World} (h : a.grownBy b none) (g : Option Nat) : a.grownBy b g := ⟨h.os, h.tape, h.output, h.size, fun p hp _ => h.block p hp (by simp)⟩
/-- one more block is held -/
theorem SG2.oneH (h : SG2 W w c1 c2 b s1 M1 s2 M2 top n l P1 P2) {x : Nat} {cs : Array Value} {t : TypeId} (hx : w.heap[x]? = some (.cells cs t (0, 0))) (t1 : t ≠ 95) (t2 : t ≠ 73) (t3 : t ≠ 71) : ∃ K, SG W K w c1 b s1 M1 top n l P1 ∧ ∀ w' n' l' P', SG W K w' c1 b s1 M1 top n' l' P' → SG2 W w' c1 c2 b s1 M1 s2 M2 top n' l' P' P2 ∧ w'.heap[x]? = some (.cells cs t (0, 0)) := by
  obtain ⟨K, ⟨gm, gw, mu, A, cap, h1⟩, h2⟩ := h.one
  refine ⟨(x, .cells cs t (0, 0)) :: K, ⟨gm, gw, mu, A, cap, h1.hold hx t1 t2 t3⟩, fun w' n' l' P' h' => ?_⟩
  obtain ⟨gm', gw', mu', A', cap', g⟩ := h'
  exact ⟨h2 w' n' l' P' ⟨gm', gw', mu', A', cap', g.sub fun y hy => List.mem_cons_of_mem _ hy⟩, g.kept _ List.mem_cons_self⟩
/-- the cache of a turn, and the other -/
theorem SG2.turn (h : SG2 W w c1 c2 b s1 M1 s2 M2 top n l P1 P2) (ht : Two top M1 M2 l P1 P2) (k : Nat) (hs : (16 ≤ s1 ∧ s1 ≤ 512 ∧ M1 = 960 / s1) ∧ 16 ≤ s2 ∧ s2 ≤ 512 ∧ M2 = 960 / s2) :
    ∃ ca cb sa Ma sb Mb Pa Pb, SG2 W w ca cb b sa Ma sb Mb top n l Pa Pb ∧ Two top Ma Mb l Pa Pb ∧ (#[Value.pointer (some ⟨c1, 0, none⟩), Value.pointer (some ⟨c2, 0, none⟩)] : Array Value)[k % 2]? = some (.pointer (some ⟨ca, 0, none⟩)) ∧ (16 ≤ sa ∧ sa ≤ 512 ∧ Ma = 960 / sa) ∧
      ∀ w' n' l' Pa', SG2 W w' ca cb b sa Ma sb Mb top n' l' Pa' Pb → Two top Ma Mb l' Pa' Pb → ∃ P1' P2', SG2 W w' c1 c2 b s1 M1 s2 M2 top n' l' P1' P2' ∧ Two top M1 M2 l' P1' P2' := by
  by_cases e : k % 2 = 0
  · exact ⟨c1, c2, s1, M1, s2, M2, P1, P2, h, ht, by rw [e]; rfl, hs.1, fun w' n' l' Pa' h1 h2 => ⟨Pa', P2, h1, h2⟩⟩
  · have e1 : k % 2 = 1 := by omega
    exact ⟨c2, c1, s2, M2, s1, M1, P2, P1, h.swap, ht.swap, by rw [e1]; rfl, hs.2, fun w' n' l' Pa' h1 h2 => ⟨P1, Pa', h1.swap, h2.swap⟩⟩
set_option maxRecDepth 100000 in
theorem apart_long (o1 o2 : Nat) (A : Option Addr) (nl cap : Nat) (h : 200 < nl) (w : World) (hT : TabZ w) : Calls Tryd.prog 6 #[.int .u8 (o1 : Int), .int .u8 (o2 : Int), .slice A nl cap] w fun e w' => e = .returned (.bool true) ∧ Below w.heap.size w w' := by
  have i1 : (200 : Int) < (nl : Int) := by omega
  have HT := Lib.hid hT
  clear hT h
  go_enter Tryd.func6, Tryd.ntmps6
  go_wp2_with fail
  refine (alive_any _ HT.out).mono ?_
  rintro e w1 ⟨rfl, hb⟩
  have HB := Lib.hid hb
  clear hb
  go_wp2
  go_ret
  exact ⟨rfl, HB.out⟩
set_option maxRecDepth 100000 in
set_option maxHeartbeats 4000000 in
theorem apart_short (o1 o2 : Nat) (ho1 : o1 ≤ 255) (ho2 : o2 ≤ 255) (L : List (Int × Int)) (A : Option Addr) (nl cap : Nat) (hnl : L.length = nl) (h : nl ≤ 200) (w : World) (hT : TabZ w) (hA : SlR w A (actCells L)) : Calls Tryd.prog 6 #[.int .u8 (o1 : Int), .int .u8 (o2 : Int), .slice A nl cap] w fun e w' => e = .returned (.bool true) ∧ Below w.heap.size w w' := by
  have i1 : (nl : Int) ≤ 200 := by omega
  have HT := Lib.hid hT
  have HA := Lib.hid hA
  obtain ⟨S1, hS1⟩ : ∃ S : Int, (o1 : Int) = S := ⟨_, rfl⟩
  obtain ⟨S2, hS2⟩ : ∃ S : Int, (o2 : Int) = S := ⟨_, rfl⟩
  obtain ⟨R1, Q1, Z1, s1, z1, z2, z3, z4, hZ1, g1, g2, g3, -⟩ := u8_size o1 ho1 S1 hS1
  obtain ⟨R2, Q2, Z2, s2, y1, y2, y3, y4, hZ2, f1, f2, f3, -⟩ := u8_size o2 ho2 S2 hS2
  obtain ⟨M1, hM1⟩ : ∃ M, M = 960 / s1 := ⟨_, rfl⟩
  obtain ⟨M2, hM2⟩ : ∃ M, M = 960 / s2 := ⟨_, rfl⟩
  have HZ1 := Lib.hid hZ1
  have HZ2 := Lib.hid hZ2
  have HS : Hid ((16 ≤ s1 ∧ s1 ≤ 512 ∧ M1 = 960 / s1) ∧ 16 ≤ s2 ∧ s2 ≤ 512 ∧ M2 = 960 / s2) := Lib.hid ⟨⟨g1, g2, hM1⟩, f1, f2, hM2⟩
  have HS3 : Hid ((s1 : Int).tmod 16 = 0 ∧ (s2 : Int).tmod 16 = 0) := Lib.hid ⟨g3, f3⟩
  have HN : Hid (L.length = nl ∧ nl ≤ 200) := Lib.hid ⟨hnl, h⟩
  rw [hS1, hS2]
  clear hT hA hS1 hS2 ho1 ho2 hZ1 hZ2 g1 g2 g3 f1 f2 f3 hM1 hM2 hnl h
  go_enter Tryd.func6, Tryd.ntmps6
  go_wp2_with fail
  refine (alive_any _ HT.out).mono ?_
  rintro e w1 ⟨rfl, hb⟩
  have HB := Lib.hid hb
  have TW : Hid (TabZ w1) := Lib.hid (HT.out.below HT.out.lt hb)
  have HA1 : Hid (SlR w1 A (actCells L)) := Lib.hid (HA.out.below hb)
  clear hb
  go_wp2_with fail
  refine (new_g 65536 6 65536 rfl (by decide) (by omega) (by omega) _ TW.out).mono ?_
  rintro e w2 ⟨b, gm, gw, mu, rfl, h2⟩
  have H2 := Lib.hid h2.rebase
  clear h2
  go_wp2_with fail
  refine (new_s 6 gm gw mu H2.out HS.out.1.1 HS.out.1.2.1 HS3.out.1 M1 Z1 HZ1.out).mono ?_
  rintro e w3 ⟨c1, rfl, h3⟩
  have H3 := Lib.hid h3
  clear h3
  go_wp2_with fail
  refine (SG2.made H3.out HS.out.2.1 HS.out.2.2.1 HS3.out.2 M2 Z2 HZ2.out).mono ?_
  rintro e w4 ⟨c2, rfl, h4⟩
  have H4 := Lib.hid h4
  clear h4
  go_wp2_with fail
  have h5 := H4.out.below ((Below.refl _ w4).alloc (Nat.le_refl _) (.cells #[.pointer (some ⟨c1, 0, none⟩), .pointer (some ⟨c2, 0, none⟩)] 25))
  have x5 := heap_alloc_new w4 (.cells #[.pointer (some ⟨c1, 0, none⟩), .pointer (some ⟨c2, 0, none⟩)] 25)
  obtain ⟨xb, hxb⟩ : ∃ xb, w4.heap.size = xb := ⟨_, rfl⟩
  rw [hxb] at x5
  rw [hxb]
  generalize hw5 : w4.alloc (.cells #[.pointer (some ⟨c1, 0, none⟩), .pointer (some ⟨c2, 0, none⟩)] 25) = w5 at h5 x5 ⊢
  have H5 := Lib.hid h5
  have X5 := Lib.hid x5
  clear h5 x5 hxb hw5
  go_loopw [9] (fun i wr => ∃ (k : Nat) (l : List Tl) (P1 P2 : List Pg), k ≤ nl ∧ i = .int .i64 (k : Int) ∧ SG2 w1 wr c1 c2 b s1 M1 s2 M2 6 k l P1 P2 ∧ Two 6 M1 M2 l P1 P2 ∧ wr.heap[xb]? = some (.cells #[.pointer (some ⟨c1, 0, none⟩), .pointer (some ⟨c2, 0, none⟩)] 25 (0, 0))) (fun i _ => nl - (intOf i).toNat)
  case atStart => exact ⟨0, _, [], [], Nat.zero_le _, rfl, H5.out, ⟨lay_nil _ _ _, lay_nil _ _ _, fun p hp => absurd hp List.not_mem_nil⟩, X5.out⟩
  case round =>
    obtain ⟨k, l, P1, P2, hk, rfl, h6, ht6, hx6⟩ := hrel
    by_cases hlt : k < nl
    · obtain ⟨ca, cb, sa, Ma, sb, Mb, Pa, Pb, ha, hta, hca, hsa, hback⟩ := h6.turn ht6 k HS.out
      obtain ⟨K, hK, hKb⟩ := ha.oneH hx6 (by decide) (by decide) (by decide)
      have hsl := (HA1.out.below h6.way).act (k := k) (by have := HN.out; omega)
      obtain ⟨g, off, hAe, hg, d0, d1⟩ := hsl
      obtain ⟨p2, hp2⟩ : ∃ p2, k % 2 = p2 := ⟨_, rfl⟩
      have zm : (k : Int).tmod 2 = (p2 : Int) := by rw [Int.tmod_eq_emod_of_nonneg (by omega)]; omega
      have p0 : (0 : Int) ≤ (p2 : Int) := by omega
      have p1 : (p2 : Int) < 2 := by omega
      have cx := (cell_of_row _ _ p2 _ _ _ hx6)
      rw [hp2] at hca
      rw [hca] at cx
      obtain ⟨kd, hkd⟩ : ∃ kd, (L[k]'(by have := HN.out; omega)).1 = kd := ⟨_, rfl⟩
      obtain ⟨nn, hnn⟩ : ∃ nn, (L[k]'(by have := HN.out; omega)).2 = nn := ⟨_, rfl⟩
      rw [hkd] at d0
      rw [hnn] at d1
      have j1 : (k : Int) < (nl : Int) := by omega
      have j0 : (0 : Int) ≤ (k : Int) := by omega
      have zk : IntKind.i64.wrap ((k : Int) + 1) = (k : Int) + 1 := by rw [IntKind.wrap_i64]; have := HN.out; omega
      subst hAe
      obtain ⟨um, hum⟩ : ∃ um, um = (usedC Ma sa Pa).length := ⟨_, rfl⟩
      have HK := Lib.hid hK
      have HKB := Lib.hid hKb
      have HTA := Lib.hid hta
      have HSA := Lib.hid hsa
      have HBACK := Lib.hid hback
      have HUM := Lib.hid hum
      have HLT := Lib.hid hlt
      have HWR := Lib.hid h6.way
      obtain ⟨m1, m2⟩ := size_many hsa.1 hsa.2.1 hsa.2.2
      have HMM : Hid (0 < Ma ∧ Ma ≤ 60) := Lib.hid ⟨m1, m2⟩
      clear h6 ht6 hx6 ha hta hsa hback hK hKb hkd hnn hlt hk hp2 hca hum m1 m2
      go_wp2_with fail
      refine (used_s HK.out TW.out HTA.out.one HSA.out.2.1 HMM.out.2 um HUM.out).mono ?_
      rintro e w7 ⟨A7, c7, rfl, ho7, h7, b7⟩
      have H7 := Lib.hid h7
      have HO7 := Lib.hid ho7
      have e0 := (b7.cell (p := ⟨g, off + k * 2, none⟩) hg).trans d0
      have e1 := (b7.cell (p := ⟨g, off + k * 2 + 1, none⟩) hg).trans d1
      have fin : Hid (∀ (w8 : World) (l' : List Tl) (P' : List Pg) (n' : Nat), n' ≤ k + 1 → SG w1 K w8 ca b sa Ma 6 n' l' P' → (SG2 w1 w8 ca cb b sa Ma sb Mb 6 n' l' P' Pb → Two 6 Ma Mb l' P' Pb) → ∃ P1' P2', SG2 w1 w8 c1 c2 b s1 M1 s2 M2 6 (k + 1) l' P1' P2' ∧ Two 6 M1 M2 l' P1' P2' ∧ w8.heap[xb]? = some (.cells #[.pointer (some ⟨c1, 0, none⟩), .pointer (some ⟨c2, 0, none⟩)] 25 (0, 0))) := Lib.hid (fun w8 l' P' n' hn' h8 ht8 => by
        obtain ⟨hg2, hx8⟩ := HKB.out w8 n' l' P' h8
        obtain ⟨P1', P2', hs2, ht2⟩ := HBACK.out _ _ _ _ hg2 (ht8 hg2)
        exact ⟨P1', P2', hs2.monon hn', ht2, hx8⟩)
      clear h7 ho7 b7 d0 d1 cx
      by_cases qk : kd = 0 ∨ kd = 3
      · have key : ((kd == 0) = true) ∨ ((kd == 0) = false ∧ (kd == 3) = true) := by
          rcases qk with q | q
          · exact .inl (by simp [q])
          · exact .inr ⟨by simp [q], by simp [q]⟩
        clear qk
        rcases key with q1 | ⟨q1, q2⟩
        all_goals
          go_wp2_with fail
          refine (take_s H7.out TW.out (by have := HN.out; have := HLT.out; omega) HSA.out.1 HSA.out.2.1 HSA.out.2.2 HTA.out.one).mono ?_
          rintro e w8 ⟨at_, er, l', P', rfl, hts, h8⟩
          obtain ⟨P1', P2', g1, g2, g3⟩ := fin.out w8 l' P' (k + 1) (Nat.le_refl _) h8 (fun _ => HTA.out.take hts H7.out.wf HMM.out.1)
          have G1 := Lib.hid g1
          have G2 := Lib.hid g2
          have G3 := Lib.hid g3
          clear hts h8 g1 g2 g3
          go_wp2
          go_roundw
          case rel => exact ⟨k + 1, l', P1', P2', HLT.out, by go_num, G1.out, G2.out, G3.out⟩
          case measure => have := HLT.out; (try simp [intOf]) <;> omega
      · have q1 : (kd == 0) = false := by simp only [beq_eq_false_iff_ne, ne_eq]; omega
        have q2 : (kd == 3) = false := by simp only [beq_eq_false_iff_ne, ne_eq]; omega
        clear qk
        by_cases qg : 0 ≤ nn ∧ 0 < um
        · have q3 : decide ((0 : Int) ≤ nn) = true := decide_eq_true qg.1
          have q4 : decide ((0 : Int) < (um : Int)) = true := decide_eq_true (by omega)
          have q5 : 0 < um := qg.2
          obtain ⟨N, hN⟩ : ∃ N : Nat, nn = (N : Int) := ⟨nn.toNat, by omega⟩
          obtain ⟨p, hp⟩ : ∃ p, N % um = p := ⟨_, rfl⟩
          have hpu : p < um := by rw [← hp]; exact Nat.mod_lt _ qg.2
          have zn : nn.tmod (um : Int) = (p : Int) := by rw [hN, ← hp, Int.tmod_eq_emod_of_nonneg (by omega)]; rfl
          have n0 : ¬ ((um : Int) = 0) := by omega
          have r0 : (0 : Int) ≤ (p : Int) := by omega
          have r1 : (p : Int) < (um : Int) := by omega
          obtain ⟨g2, off2, hA2, hc2⟩ := (ownsRow_sl HO7.out).int (l := usedC Ma sa Pa) (k := p) (by rw [← HUM.out]; exact hpu)
          obtain ⟨X, hX⟩ : ∃ X, (usedC Ma sa Pa)[p]'(by rw [← HUM.out]; exact hpu) = X := ⟨_, rfl⟩
          have HXU : Hid (X ∈ usedC Ma sa Pa) := Lib.hid (by rw [← hX]; exact List.getElem_mem _)
          rw [hX] at hc2
          subst hA2
          clear qg hp hpu hX hN
          go_wp2_with fail
          refine (giveyes_s H7.out HTA.out.one (by have := HSA.out; omega) HSA.out.2.1 HSA.out.2.2 X HXU.out).mono ?_
          rintro e w8 ⟨rfl, l', P', h8, hl8, hu8, hc8⟩
          obtain ⟨P1', P2', g1, g2, g3⟩ := fin.out w8 l' P' k (Nat.le_succ _) h8 (fun _ => HTA.out.give hl8 hc8)
          have G1 := Lib.hid g1
          have G2 := Lib.hid g2
          have G3 := Lib.hid g3
          clear h8 hl8 hu8 hc8 g1 g2 g3
          go_wp2
          go_roundw
          case rel => exact ⟨k + 1, l', P1', P2', HLT.out, by go_num, G1.out, G2.out, G3.out⟩
          case measure => have := HLT.out; (try simp [intOf]) <;> omega
        · obtain ⟨P1', P2', g1, g2, g3⟩ := fin.out w7 l Pa k (Nat.le_succ _) H7.out (fun _ => HTA.out)
          have G1 := Lib.hid g1
          have G2 := Lib.hid g2
          have G3 := Lib.hid g3
          have key : (decide ((0 : Int) ≤ nn) = false) ∨ (decide ((0 : Int) ≤ nn) = true ∧ um = 0) := by
            by_cases q : 0 ≤ nn
            · exact .inr ⟨decide_eq_true q, by omega⟩
            · exact .inl (decide_eq_false q)
          clear g1 g2 g3 qg
          rcases key with q3 | ⟨q3, q4⟩
          all_goals
            go_wp2
            go_roundw
            case rel => exact ⟨k + 1, l, P1', P2', HLT.out, by go_num, G1.out, G2.out, G3.out⟩
            case measure => have := HLT.out; (try simp [intOf]) <;> omega
    · have j1 : ¬ ((k : Int) < (nl : Int)) := by omega
      have hkn : k = nl := by omega
      subst hkn
      have H6 := Lib.hid h6
      have T6 := Lib.hid ht6
      have X6 := Lib.hid hx6
      clear h6 ht6 hx6 hlt hk
      go_wp2_with fail
      have hA2 := H6.out.below ((Below.refl _ wr).alloc (Nat.le_refl _) (.cells Tryd.zeroCells58 58))
      have xA := (((Below.refl _ wr).alloc (Nat.le_refl _) (.cells Tryd.zeroCells58 58)).block xb (blt X6.out)).trans X6.out
      have cA := cm_start wr
      have hlo : w1.heap.size ≤ wr.heap.size := H6.out.way.size
      have hxc : xb ≠ wr.heap.size := by have := blt X6.out; omega
      obtain ⟨ab, hab⟩ : ∃ ab, wr.heap.size = ab := ⟨_, rfl⟩
      rw [hab] at cA hlo hxc
      rw [hab]
      generalize hwA : wr.alloc (.cells Tryd.zeroCells58 58) = wA at hA2 xA cA ⊢
      have HA2 := Lib.hid hA2
      have XA := Lib.hid xA
      have CA := Lib.hid cA
      have HLO := Lib.hid hlo
      have HXC := Lib.hid hxc
      obtain ⟨RK, hRK⟩ : ∃ RK : Nat → List (Nat × Nat), RK 0 = [] ∧ RK 1 = headsR P1 ++ placesR M1 s1 P1 ∧ RK 2 = (headsR P1 ++ placesR M1 s1 P1) ++ (headsR P2 ++ placesR M2 s2 P2) := ⟨fun k => if k = 0 then [] else if k = 1 then headsR P1 ++ placesR M1 s1 P1 else (headsR P1 ++ placesR M1 s1 P1) ++ (headsR P2 ++ placesR M2 s2 P2), rfl, rfl, rfl⟩
      have HRK := Lib.hid hRK
      clear hA2 xA cA hlo hxc hab hwA hRK
      go_loopw [13] (fun x wx => ∃ k2 : Nat, k2 ≤ 2 ∧ x = .int .i64 (k2 : Int) ∧ wA.grownBy wx (some ab) ∧ CM wx ab 58 (RK k2)) (fun x _ => 2 - (intOf x).toNat)
      case atStart => exact ⟨0, by omega, rfl, World.grownBy.refl _ _, by rw [HRK.out.1]; exact CA.out⟩
      case round =>
        obtain ⟨k2, hk2, rfl, hgA, hcm⟩ := hrel
        by_cases hlt : k2 < 2
        · obtain ⟨cc, sa, Ma, Pa, hsg, hlay, hcc, hsa, hR, hoff⟩ := HA2.out.at T6.out CA.out HLO.out k2 hlt HS.out RK HRK.out
          have xr : wr.heap[xb]? = some (.cells #[.pointer (some ⟨c1, 0, none⟩), .pointer (some ⟨c2, 0, none⟩)] 25 (0, 0)) := (hgA.block xb (blt XA.out) (fun e => HXC.out (by injection e))).trans XA.out
          have cx := cell_of_row _ _ k2 _ _ _ xr
          rw [hcc] at cx
          have q0 : (0 : Int) ≤ (k2 : Int) := by omega
          have q1 : (k2 : Int) < 2 := by omega
          have HSG := Lib.hid hsg
          have HLAY := Lib.hid hlay
          have HSA := Lib.hid hsa
          have HR := Lib.hid hR
          have HOFF := Lib.hid hoff
          have HLT := Lib.hid hlt
          have HGA := Lib.hid hgA
          have HCM := Lib.hid hcm
          have HCX := Lib.hid hcc
          have HCELL : Hid (∀ wx, wA.grownBy wx (some ab) → wx.cell? ⟨xb, k2, none⟩ = some (.pointer (some ⟨cc, 0, none⟩))) := Lib.hid (fun wx hgx => by
            have hx2 : wx.heap[xb]? = some (.cells #[.pointer (some ⟨c1, 0, none⟩), .pointer (some ⟨c2, 0, none⟩)] 25 (0, 0)) := (hgx.block xb (blt XA.out) (fun e => HXC.out (by injection e))).trans XA.out
            rw [cell_of_row _ _ k2 _ _ _ hx2, hcc])
          have zk2 : IntKind.i64.wrap ((k2 : Int) + 1) = (k2 : Int) + 1 := by rw [IntKind.wrap_i64]; omega
          obtain ⟨pm, hpm⟩ : ∃ pm, pm = Pa.length := ⟨_, rfl⟩
          have HPM := Lib.hid hpm
          have HS0 := Lib.hid (hsg _ hgA)
          clear hsg hlay hsa hR hoff hgA hcm hcc hlt hk2 xr hpm
          go_wp2_with fail
          refine (slabs_s HS0.out HLAY.out pm HPM.out).mono ?_
          rintro e w7 ⟨A7, k7, rfl, ho7, h7, b7⟩
          have SL7 := Lib.hid (ownsRow_sl ho7)
          have HN7 : Hid (∀ a, A7 = some a → a.block ≠ ab) := Lib.hid (fun a ea => by have := ownsRow_new ho7 a ea; have := HCM.out.lt; omega)
          have HG7 := Lib.hid (gb_trans HGA.out (gb_any (grown_of_below b7) (some ab)))
          have HC7 := Lib.hid (HCM.out.below b7)
          clear ho7 h7 b7 cx
          go_wp2_with fail
          go_loopw [15] (fun x wx => ∃ i : Nat, i ≤ pm ∧ x = .int .i64 (i : Int) ∧ w7.grownBy wx (some ab) ∧ CM wx ab 58 (RK k2 ++ headsR (Pa.take i))) (fun x _ => pm - (intOf x).toNat)
          case atStart => exact ⟨0, Nat.zero_le _, rfl, World.grownBy.refl _ _, by rw [List.take_zero]; exact HC7.out.same (fun x => by rw [inR_app]; simp [inR, headsR])⟩
          case round =>
            obtain ⟨i, hi, rfl, hg8, hc8⟩ := hrel
            by_cases hip : i < pm
            · have hil : i < Pa.length := by have := HPM.out; omega
              obtain ⟨g, off, hA, hcs7⟩ := (SL7.out).int (l := slabsC Pa) (k := i) (by rw [slabsC_length]; exact hil)
              obtain ⟨q, hq⟩ : ∃ q, Pa[i].q = q := ⟨_, rfl⟩
              obtain ⟨X, hX⟩ : ∃ X : Int, ((1024 * q : Nat) : Int) = X := ⟨_, rfl⟩
              have hget : (slabsC Pa)[i]'(by rw [slabsC_length]; exact hil) = X := by
                simp only [slabsC, List.getElem_map, hq, hX]
              rw [hget] at hcs7
              have hgn : g ≠ ab := HN7.out _ hA
              have HCS : Hid (∀ wx, w7.grownBy wx (some ab) → wx.cell? ⟨g, off + i, none⟩ = some (.int .i64 X)) := Lib.hid (fun wx hgx => (grown_cell hgx (World.block_lt_of_cell? _ _ hcs7) hgn).trans hcs7)
              have hcs := HCS.out _ hg8
              have hmem := HLAY.out.mem Pa[i] (List.getElem_mem hil)
              rw [hq] at hmem
              have hq64 : q < 64 := by
                have h1 := (blks_lt hmem).2
                have h2 := (HSG.out _ HGA.out).good.all
                have h3 : (2 : Nat) ^ 6 = 64 := by decide
                simp only at h1
                rw [h3] at h2
                omega
              have HXW : Hid ((Lit.int .i64 X).wf = true) := Lib.hid (WalkArith.wf_i64 (by omega))
              have HOR : Hid (orderC l X = 0) := Lib.hid (order_page hmem X hX.symm)
              have HQ64 : Hid (q < 64 ∧ ((1024 * q : Nat) : Int) = X) := Lib.hid ⟨hq64, hX⟩
              have HOH : Hid (∀ x ∈ RK k2 ++ headsR (Pa.take i), offR x (1024 * q, 64)) := Lib.hid (by rw [← hq]; exact heads_off HOFF.out hil)
              have HHS : Hid (headsR (Pa.take (i + 1)) = headsR (Pa.take i) ++ [(1024 * q, 64)]) := Lib.hid (by rw [headsR_take hil, hq])
              have HG8 := Lib.hid hg8
              have HC8 := Lib.hid hc8
              have HIP := Lib.hid hip
              have HS8 := Lib.hid (HSG.out _ (gb_trans HG7.out hg8))
              have i0 : (0 : Int) ≤ (i : Int) := by omega
              have i1' : (i : Int) < (pm : Int) := by omega
              have zi : IntKind.i64.wrap ((i : Int) + 1) = (i : Int) + 1 := by
                rw [IntKind.wrap_i64]
                have := HLAY.out.short (HSG.out _ HGA.out).good (HSG.out _ HGA.out).tle (HSG.out _ HGA.out).rise
                have := HPM.out
                omega
              subst hA
              clear hi hg8 hc8 hip hil hq hX hget hmem hq64 hcs7 hgn
              go_wp2_with fail
              refine (order_s HS8.out X HXW.out 0 HOR.out).mono ?_
              rintro e w' ⟨rfl, hw'⟩
              have hw2 := hw'.symm
              clear hw'
              subst hw2
              go_wp2_with fail
              go_loopw [16] (fun x wx => ∃ m : Nat, m ≤ 64 ∧ x = .int .i64 (m : Int) ∧ w7.grownBy wx (some ab) ∧ CM wx ab 58 ((RK k2 ++ headsR (Pa.take i)) ++ [(1024 * q, m)])) (fun x _ => 64 - (intOf x).toNat)
              case atStart => exact ⟨0, by omega, rfl, HG8.out, HC8.out.same (fun x => inR_empty _ _ _)⟩
              case round =>
                obtain ⟨m, hm, rfl, hg9, hc9⟩ := hrel
                by_cases hm64 : m < 64
                · have hcs9 := HCS.out _ hg9
                  obtain ⟨N, hN⟩ : ∃ N, 1024 * q + m = N := ⟨_, rfl⟩
                  have hN6 : N < 65536 := by have := HQ64.out; omega
                  have zX : IntKind.i64.wrap (X + (m : Int)) = (N : Int) := by rw [IntKind.wrap_i64]; have := HQ64.out; omega
                  have n0 : (0 : Int) ≤ (N : Int) := by omega
                  have n1 : (N : Int) < 65536 := by omega
                  have cN : wr.cell? ⟨ab, N, none⟩ = some (.bool false) := by rw [hc9.cell hN6, ← hN, inR_new HOH.out hm64]
                  have fN := hc9.frozen N
                  have m1' : decide ((m : Int) < 64) = true := decide_eq_true (by omega)
                  have m2' : (m : Int) < 64 := by omega
                  have zm : IntKind.i64.wrap ((m : Int) + 1) = (m : Int) + 1 := by rw [IntKind.wrap_i64]; omega
                  have HG10 := Lib.hid (gb_set hg9 N (.bool true))
                  have hmk := hc9.mark (s := 1024 * q) (m := m) (by omega)
                  rw [hN] at hmk
                  have HMK := Lib.hid hmk
                  clear hm hg9 hc9 hN hN6 hmk
                  go_wp2
                  go_roundw
                  case rel => exact ⟨m + 1, by omega, by go_num, HG10.out, HMK.out⟩
                  case measure => (try simp [intOf]) <;> omega
                · have em : m = 64 := by omega
                  subst em
                  have HG9 := Lib.hid hg9
                  have HC9 := Lib.hid (show CM wr ab 58 (RK k2 ++ headsR (Pa.take (i + 1))) by rw [HHS.out, ← List.append_assoc]; exact hc9)
                  clear hm hg9 hc9 hm64
                  go_wp2
                  go_roundw
                  case rel => exact ⟨i + 1, HIP.out, by go_num, HG9.out, HC9.out⟩
                  case measure => have := HIP.out; (try simp [intOf]) <;> omega
            · have i1' : ¬ ((i : Int) < (pm : Int)) := by omega
              have ei : Pa.take i = Pa := List.take_of_length_le (by have := HPM.out; omega)
              rw [ei] at hc8
              have HG8 := Lib.hid hg8
              have HC8 := Lib.hid hc8
              have HGA8 := Lib.hid (gb_trans HG7.out hg8)
              have HS8 := Lib.hid (HSG.out _ HGA8.out)
              have cx := HCELL.out _ HGA8.out
              obtain ⟨um, hum⟩ : ∃ um, um = (usedC Ma sa Pa).length := ⟨_, rfl⟩
              have HUM := Lib.hid hum
              clear hi hg8 hc8 hip ei hum
              go_wp2_with fail
              refine (used_s HS8.out TW.out HLAY.out HSA.out.2.1 (size_many HSA.out.1 HSA.out.2.1 HSA.out.2.2).2 um HUM.out).mono ?_
              rintro e w9 ⟨A9, k9, rfl, ho9, h9, b9⟩
              have SL9 := Lib.hid (ownsRow_sl ho9)
              have HN9 : Hid (∀ a, A9 = some a → a.block ≠ ab) := Lib.hid (fun a ea => by have := ownsRow_new ho9 a ea; have := HC8.out.lt; omega)
              have HG9 := Lib.hid (gb_trans HGA8.out (gb_any (grown_of_below b9) (some ab)))
              have HC9 := Lib.hid (HC8.out.below b9)
              clear ho9 h9 b9 cx
              go_wp2_with fail
              go_loopw [18] (fun x wx => ∃ i : Nat, i ≤ um ∧ x = .int .i64 (i : Int) ∧ w9.grownBy wx (some ab) ∧ CM wx ab 58 (RK k2 ++ headsR Pa ++ placesT Ma sa Pa i)) (fun x _ => um - (intOf x).toNat)
              case atStart => exact ⟨0, Nat.zero_le _, rfl, World.grownBy.refl _ _, HC9.out.same (fun x => by rw [inR_app]; simp [inR, placesT])⟩
              case round =>
                obtain ⟨i, hi, rfl, hg10, hc10⟩ := hrel
                by_cases hip : i < um
                · have hil : i < (usedC Ma sa Pa).length := by have := HUM.out; omega
                  obtain ⟨g, off, hA, hcs9⟩ := (SL9.out).int (l := usedC Ma sa Pa) (k := i) hil
                  obtain ⟨X, hX⟩ : ∃ X : Int, (usedC Ma sa Pa)[i] = X := ⟨_, rfl⟩
                  rw [hX] at hcs9
                  have hgn : g ≠ ab := HN9.out _ hA
                  have HCS : Hid (∀ wx, w9.grownBy wx (some ab) → wx.cell? ⟨g, off + i, none⟩ = some (.int .i64 X)) := Lib.hid (fun wx hgx => (grown_cell hgx (World.block_lt_of_cell? _ _ hcs9) hgn).trans hcs9)
                  have hcs := HCS.out _ hg10
                  have hXm : X ∈ usedC Ma sa Pa := by rw [← hX]; exact List.getElem_mem hil
                  obtain ⟨p, hp, j, hj, _, hXe⟩ := mem_usedC.1 hXm
                  have hpe := place_end HSA.out.2.2 hj
                  have hmem := HLAY.out.mem p hp
                  obtain ⟨q, hq⟩ : ∃ q, p.q = q := ⟨_, rfl⟩
                  rw [hq] at hmem hXe
                  have hq64 : q < 64 := by
                    have h1 := (blks_lt hmem).2
                    have h2 := (HSG.out _ HGA.out).good.all
                    have h3 : (2 : Nat) ^ 6 = 64 := by decide
                    simp only at h1
                    rw [h3] at h2
                    omega
                  obtain ⟨V, hV⟩ : ∃ V, 1024 * q + 64 + j * sa = V := ⟨_, rfl⟩
                  rw [hV] at hXe
                  obtain ⟨D, hD⟩ : ∃ D : Int, D = (q : Int) := ⟨_, rfl⟩
                  obtain ⟨Q, hQ⟩ : ∃ Q : Int, Q = ((1024 * q : Nat) : Int) := ⟨_, rfl⟩
                  obtain ⟨Em, hEm⟩ : ∃ E : Int, E = ((64 + j * sa : Nat) : Int) := ⟨_, rfl⟩
                  obtain ⟨Ss, hSs⟩ : ∃ S : Int, S = (sa : Int) := ⟨_, rfl⟩
                  have hsa16 := HSA.out.1
                  have zt : X.tdiv 1024 = D := by rw [hXe, Int.tdiv_eq_ediv_of_nonneg (by omega)]; omega
                  have zt2 : X.tmod 1024 = Em := by rw [hXe, Int.tmod_eq_emod_of_nonneg (by omega)]; omega
                  have zw : IntKind.i64.wrap D = D := by rw [IntKind.wrap_i64]; omega
                  have zw2 : wrap64 D = D := by rw [wrap64]; omega
                  have zp : IntKind.i64.wrap (D * 1024) = Q := by rw [IntKind.wrap_i64]; omega
                  have ze : IntKind.i64.wrap (Em + Ss) = Em + Ss := by rw [IntKind.wrap_i64]; omega
                  have zc : decide (1024 < Em + Ss) = false := decide_eq_false (by omega)
                  have HQW : Hid ((Lit.int .i64 Q).wf = true) := Lib.hid (WalkArith.wf_i64 (by omega))
                  have HOR : Hid (orderC l Q = 0) := Lib.hid (order_page hmem Q hQ)
                  have HV : Hid (V + sa ≤ 65536 ∧ X = (V : Int) ∧ Ss = (sa : Int)) := Lib.hid ⟨by omega, hXe, hSs⟩
                  have HOH : Hid (∀ x ∈ RK k2 ++ headsR Pa ++ placesT Ma sa Pa i, offR x (V, sa)) := Lib.hid (by
                    have := places_off HOFF.out hil
                    rw [hX, hXe, Int.toNat_natCast] at this
                    exact this)
                  have HHS : Hid (placesT Ma sa Pa (i + 1) = placesT Ma sa Pa i ++ [(V, sa)]) := Lib.hid (by rw [placesT_succ hil, hX, hXe, Int.toNat_natCast])
                  have HG10 := Lib.hid hg10
                  have HC10 := Lib.hid hc10
                  have HIP := Lib.hid hip
                  have HS10 := Lib.hid (HSG.out _ (gb_trans HG9.out hg10))
                  have cx := HCELL.out _ (gb_trans HG9.out hg10)
                  have i0 : (0 : Int) ≤ (i : Int) := by omega
                  have i1' : (i : Int) < (um : Int) := by omega
                  have zi : IntKind.i64.wrap ((i : Int) + 1) = (i : Int) + 1 := by
                    rw [IntKind.wrap_i64]
                    have h1 := HLAY.out.short (HSG.out _ HGA.out).good (HSG.out _ HGA.out).tle (HSG.out _ HGA.out).rise
                    have h2 := usedC_length Ma sa Pa
                    have h3 : Pa.length * Ma ≤ 1048576 * 60 := Nat.mul_le_mul h1 (size_many HSA.out.1 HSA.out.2.1 HSA.out.2.2).2
                    have := HUM.out
                    omega
                  subst hA
                  clear hi hg10 hc10 hip hil hX hcs9 hgn hXm hp hj hXe hpe hmem hq hq64 hV hD hQ hEm hSs hsa16
                  go_wp2_with fail
                  go_quiet ((first | (go_at_call 29; exact Calls.quiet_of_same (order_s (HS10.out.below (below_drewN (Below.refl _ _) _)) Q HQW.out 0 HOR.out)) | (go_at_call 17; exact Calls.quiet_of_same (size_s (HS10.out.below (below_drewN (Below.refl _ _) _)) Ss HV.out.2.2))))
                  have hg11 := gb_trans HG10.out (gb_any (grown_of_below (below_drewN (Below.refl wr.heap.size wr) nq)) (some ab))
                  have hc11 := HC10.out.below (below_drewN (Below.refl wr.heap.size wr) nq)
                  generalize hwq : wr.drewN nq = wq at hg11 hc11 ⊢
                  have HG11 := Lib.hid hg11
                  have HC11 := Lib.hid hc11
                  clear hwq hg11 hc11 hcs cx zt zt2 zw zw2 zp ze zc
                  go_wp2_with fail
                  go_loopw [19] (fun x wx => ∃ m : Nat, m ≤ sa ∧ x = .int .i64 (m : Int) ∧ w9.grownBy wx (some ab) ∧ CM wx ab 58 ((RK k2 ++ headsR Pa ++ placesT Ma sa Pa i) ++ [(V, m)])) (fun x _ => sa - (intOf x).toNat)
                  case atStart => exact ⟨0, Nat.zero_le _, rfl, HG11.out, HC11.out.same (fun x => inR_empty _ _ _)⟩
                  case round =>
                    obtain ⟨m, hm, rfl, hg12, hc12⟩ := hrel
                    have cx := HCELL.out _ (gb_trans HG9.out hg12)
                    have HS12 := Lib.hid (HSG.out _ (gb_trans HG9.out hg12))
                    by_cases hms : m < sa
                    · have hcs12 := HCS.out _ hg12
                      obtain ⟨N, hN⟩ : ∃ N, V + m = N := ⟨_, rfl⟩
                      have hN6 : N < 65536 := by have := HV.out; omega
                      have zX : IntKind.i64.wrap (X + (m : Int)) = (N : Int) := by rw [IntKind.wrap_i64]; have := HV.out; omega
                      have n0 : (0 : Int) ≤ (N : Int) := by omega
                      have n1 : (N : Int) < 65536 := by omega
                      have cN : wr.cell? ⟨ab, N, none⟩ = some (.bool false) := by rw [hc12.cell hN6, ← hN, inR_new HOH.out hms]
                      have fN := hc12.frozen N
                      have m2' : (m : Int) < Ss := by have := HV.out; omega
                      have zm : IntKind.i64.wrap ((m : Int) + 1) = (m : Int) + 1 := by rw [IntKind.wrap_i64]; have := HV.out; omega
                      have HG13 := Lib.hid (gb_set hg12 N (.bool true))
                      have hmk := hc12.mark (s := V) (m := m) (by omega)
                      rw [hN] at hmk
                      have HMK := Lib.hid hmk
                      have HMS := Lib.hid hms
                      clear hm hg12 hc12 hN hN6 hmk hms
                      go_wp2_with fail
                      refine (size_s HS12.out Ss HV.out.2.2).mono ?_
                      rintro e w' ⟨rfl, hw'⟩
                      have hw2 := hw'.symm
                      clear hw'
                      subst hw2
                      go_wp2
                      go_roundw
                      case rel => exact ⟨m + 1, HMS.out, by go_num, HG13.out, HMK.out⟩
                      case measure => have := HMS.out; (try simp [intOf]) <;> omega
                    · have em : m = sa := by omega
                      subst em
                      have HG13 := Lib.hid hg12
                      have HC13 := Lib.hid (show CM wr ab 58 (RK k2 ++ headsR Pa ++ placesT Ma m Pa (i + 1)) by rw [HHS.out, ← List.append_assoc]; exact hc12)
                      have m2' : ¬ ((m : Int) < Ss) := by have := HV.out; omega
                      clear hm hg12 hc12 hms
                      go_wp2_with fail
                      refine (size_s HS12.out Ss HV.out.2.2).mono ?_
                      rintro e w' ⟨rfl, hw'⟩
                      have hw2 := hw'.symm
                      clear hw'
                      subst hw2
                      go_wp2
                      go_roundw
                      case rel => exact ⟨i + 1, HIP.out, by go_num, HG13.out, HC13.out⟩
                      case measure => have := HIP.out; (try simp [intOf]) <;> omega
                · have i1' : ¬ ((i : Int) < (um : Int)) := by omega
                  have ei : i = (usedC Ma sa Pa).length := by have := HUM.out; omega
                  subst ei
                  rw [placesT_all] at hc10
                  have HC10 := Lib.hid (show CM wr ab 58 (RK (k2 + 1)) by rw [HR.out, ← List.append_assoc]; exact hc10)
                  have HG10 := Lib.hid (gb_trans HG9.out hg10)
                  clear hi hg10 hc10 hip
                  go_wp2
                  go_roundw
                  case rel => exact ⟨k2 + 1, HLT.out, by go_num, HG10.out, HC10.out⟩
                  case measure => have := HLT.out; (try simp [intOf]) <;> omega
        · have q1 : ¬ ((k2 : Int) < 2) := by omega
          have HSW := Lib.hid (HA2.out.mark CA.out HLO.out hgA).1.way
          clear hlt hk2 hgA hcm
          go_wp2_with fail
          refine (alive_any _ (TW.out.below TW.out.lt HSW.out)).mono ?_
          rintro e w14 ⟨rfl, h14⟩
          have HW := Lib.hid (HB.out.trans ((HSW.out.trans (h14.mono HSW.out.size)).mono HB.out.size))
          clear h14
          go_wp2
          go_ret
          exact ⟨rfl, HW.out⟩
theorem apart_any (o1 o2 : Nat) (ho1 : o1 ≤ 255) (ho2 : o2 ≤ 255) (L : List (Int × Int)) (A : Option Addr) (cap : Nat) (w : World) (hT : TabZ w) (hA : SlR w A (actCells L)) : Calls Tryd.prog 6 #[.int .u8 (o1 : Int), .int .u8 (o2 : Int), .slice A L.length cap] w fun e w' => e = .returned (.bool true) ∧ Below w.heap.size w w' := by
  by_cases h : 200 < L.length
  · exact apart_long o1 o2 A _ cap h w hT
  · exact apart_short o1 o2 ho1 ho2 L A _ cap rfl (by omega) w hT hA
end Go.Proofs.YtbadoihpbemjjaaDoor
