/- Taking alone: the contract. The document's example holds. Condition: the table of TrailingZeros64. And what follows from it. -/
import Derived.Test.YtbadoihpbemjjaaDoorY21
import Derived.Test.YtbadoihpbemjjaaDoorRows
import Derived.Test.YtbadoihpbemjjaaDoorCards
import Derived.Test.YtbadoihpbemjjaaDoorTie
import Derived.Deep.Slices
import Derived.Deep.Fields
import Derived.Deep.DeepHandedRow
import Derived.ProofKit
import Derived.ChangeSame
import Derived.Lib.LaidTab
import Derived.OpenShut
/- Taking alone: the contract. The document's example holds. Condition: the table of TrailingZeros64. -/
namespace Go.Proofs.YtbadoihpbemjjaaDoor
open Go.RowKit Go.Maps
variable {W w w' : World} {K : List (Nat × Obj)} {c b size M top n : Nat} {l : List Tl} {P : List Pg}

theorem SGx.monon {gm gw : Nat → Nat} {mu n' : Nat} {A : Option Addr} {cap : Nat} (h : SGx W K w c b size M top gm gw mu n l A cap P) (hn : n ≤ n') : SGx W K w c b size M top gm gw mu n' l A cap P :=
  ⟨h.bg.mono hn, h.row, h.own, h.maps, h.gws, h.rise, h.cnew, h.pnew, h.sep, h.kept, h.knc, h.kgw, h.kpg, h.kA⟩
theorem tk_lay {top M t : Nat} {l : List Tl} {P : List Pg} (hM : 0 < M) (hk : TK M t P) (hl : TL P.length l) : Lay top M l P := ⟨fun p hp => by
    obtain ⟨k, hk2, rfl⟩ := List.getElem_of_mem hp
    rw [tl_used hl, List.mem_map]
    exact ⟨k, List.mem_range.2 hk2, by rw [hk.q k hk2]⟩, fun p hp => by
    obtain ⟨k, hk2, rfl⟩ := List.getElem_of_mem hp
    refine ⟨0, hM, ?_⟩
    rw [hk.bit k hk2 0 hM]
    have h1 := hk.len
    have h2 := Nat.div_add_mod (t + M - 1) M
    have h3 : M * (k + 1) ≤ M * ((t + M - 1) / M) := Nat.mul_le_mul_left _ (by omega)
    rw [Nat.mul_add, Nat.mul_one] at h3
    have h4 := Nat.mod_lt (t + M - 1) hM
    exact decide_eq_true (by omega)⟩
theorem tl_lt {top m : Nat} {l : List Tl} (h : TL m l) (hg : Good top l) (hf : ¬ ∀ x ∈ l, x.2 = false) : m < 2 ^ top := by
  obtain ⟨F, rfl, h1, _⟩ := h
  have hs := hg.all
  rw [span_append, span_rep] at hs
  cases F with
  | nil => exact absurd (fun x hx => by rw [List.append_nil] at hx; rw [(List.mem_replicate.1 hx).2]) hf
  | cons t F =>
    have := two_pos t.1
    rw [span] at hs
    omega
theorem none_free {top : Nat} {l : List Tl} (h : ∀ x ∈ l, x.2 = false) : takeC top l 0 = (0, 4, l) := TakeR.eq (.inr ⟨0, rfl, Nat.zero_le _, .inl ⟨fun x hx => (by
    obtain ⟨a, b, e, _⟩ := blks_mem hx
    have h2 := h (x.2, true) (by rw [e]; simp)
    cases h2), rfl, rfl, rfl⟩⟩)
theorem size_many {size M : Nat} (h1 : 16 ≤ size) (h2 : size ≤ 512) (hM : M = 960 / size) : 0 < M ∧ M ≤ 60 := by
  subst hM
  have : 960 / size ≤ 960 / 16 := Nat.div_le_div_left h1 (by omega)
  exact ⟨Nat.div_pos (by omega) (by omega), by omega⟩
theorem take_tk (h : SG W K w c b size M top n l P) (hT : TabZ W) (hn : n < 1000) (hs : 16 ≤ size) (hs2 : size ≤ 512) (hM : M = 960 / size) (t : Nat) (hk : TK M t P) (hl : TL P.length l) :
    Calls Tryd.prog 10 #[.pointer (some ⟨c, 0, none⟩)] w fun e w' =>
      (e = .returned (.tuple #[.int .i64 (atC M size t), .int .i64 0]) ∧ ∃ l' P', SG W K w' c b size M top (n + 1) l' P' ∧ TK M (t + 1) P' ∧ TL P'.length l' ∧ ¬ (t % M = 0 ∧ ∀ x ∈ l, x.2 = false)) ∨
      (e = .returned (.tuple #[.int .i64 0, .int .i64 4]) ∧ t % M = 0 ∧ (∀ x ∈ l, x.2 = false) ∧ SG W K w' c b size M top (n + 1) l P) := by
  obtain ⟨m1, m2⟩ := size_many hs hs2 hM
  have hlay := tk_lay (top := top) m1 hk hl
  have hgood := h.good
  have htle := h.tle
  have hsm := hlay.small hgood htle
  have hsh := hlay.short hgood htle h.rise
  have hwf := h.wf
  have hp20 : 2 ^ top ≤ 2 ^ 20 := Nat.pow_le_pow_right (by decide) htle
  obtain ⟨gm, gw, mu, A, cap, h⟩ := h
  obtain ⟨d, hd⟩ : ∃ d, t / M = d := ⟨_, rfl⟩
  obtain ⟨r, hr⟩ : ∃ r, t % M = r := ⟨_, rfl⟩
  have ht : t = M * d + r := by rw [← hd, ← hr]; exact (Nat.div_add_mod t M).symm
  have hrM : r < M := by rw [← hr]; exact Nat.mod_lt _ m1
  have hat : atC M size t = ((1024 * d + 64 + r * size : Nat) : Int) := by rw [atC, hd, hr]
  by_cases q : r = 0
  · subst q
    obtain ⟨e1, e2, e3, e4⟩ := tk_new m1 hk (d := d) (by omega)
    by_cases hf : ∀ x ∈ l, x.2 = false
    · refine (take_none h hT hn e2 hsh 0 l (none_free hf)).mono ?_
      rintro e w' ⟨he, h2⟩
      exact .inr ⟨he, hr, hf, gm, gw, mu, A, cap, h2⟩
    · have hlt := tl_lt hl hgood hf
      rcases tl_take (top := top) hl with ⟨_, hc⟩ | ⟨l', hc, hl'⟩
      · exact absurd hc hf
      · rw [e1] at hc
        refine (take_new h hT hn e2 (by omega) hs hs2 hM d (by omega) e3 _ rfl l' hc (atC M size t) (by rw [hat, Nat.zero_mul, Nat.add_zero])).mono ?_
        rintro e w' ⟨he, A', cap', p, hp, hw, h2⟩
        exact .inl ⟨he, l', P ++ [p], ⟨gm, gw, mu, A', cap', h2⟩, e4 p hp hw, by rw [List.length_append]; exact hl', fun hc => hf hc.2⟩
  · obtain ⟨P1, p, hP, hpq, hfull, hfst, hk'⟩ := tk_old m1 hk hwf ht hrM q
    refine (take_old h hT P1 [] p hP hfull r hfst hrM hs2 m2 hsm hsh (atC M size t) (by rw [hat, hpq]) _ rfl).mono ?_
    rintro e w' ⟨he, h2⟩
    exact .inl ⟨he, l, _, ⟨gm, gw, mu, A, cap, h2.monon (Nat.le_succ _)⟩, hk', by
      have : (P1 ++ [({ p with ws := setL true M p.ws [(r : Int)] } : Pg)]).length = P.length := by rw [hP]; simp
      rw [this]; exact hl, fun hc => q (by rw [← hr]; exact hc.1)⟩
/-- New of 65536 bytes or more, and a cache -/
theorem empty_used (M size : Nat) : usedC M size [] = [] := rfl
theorem lay_nil (top M : Nat) (l : List Tl) : Lay top M l [] := ⟨fun p hp => absurd hp List.not_mem_nil, fun p hp => absurd hp List.not_mem_nil⟩
theorem lay_empty {top M size : Nat} {l : List Tl} {P : List Pg} (h : Lay top M l P) (hu : ∀ y, y ∉ usedC M size P) : P = [] := by
  cases P with
  | nil => rfl
  | cons p P =>
    obtain ⟨i, hi, hb⟩ := h.some p List.mem_cons_self
    exact absurd (mem_usedC.2 ⟨p, List.mem_cons_self, i, hi, hb, rfl⟩) (hu _)
theorem split_one {x : Nat × Nat} : ∀ {a b c d : List (Nat × Nat)}, Rises (a ++ x :: b) → a ++ x :: b = c ++ x :: d → a = c ∧ b = d
  | [], b, [], d, _, h => ⟨rfl, by simpa using h⟩
  | [], b, y :: c, d, hr, h => by
    simp only [List.nil_append, List.cons_append, List.cons.injEq] at h
    obtain ⟨rfl, rfl⟩ := h
    unfold Rises at hr
    rw [List.nil_append, List.pairwise_cons] at hr
    have := hr.1 x (by simp)
    omega
  | y :: a, b, [], d, hr, h => by
    simp only [List.nil_append, List.cons_append, List.cons.injEq] at h
    obtain ⟨rfl, rfl⟩ := h
    unfold Rises at hr
    rw [List.cons_append, List.pairwise_cons] at hr
    have := hr.1 y (by simp)
    omega
  | y :: a, b, z :: c, d, hr, h => by
    simp only [List.cons_append, List.cons.injEq] at h
    unfold Rises at hr
    rw [List.cons_append, List.pairwise_cons] at hr
    obtain ⟨e1, e2⟩ := split_one (a := a) (c := c) hr.2 h.2
    exact ⟨by rw [h.1, e1], e2⟩
/-- the used blocks are the pages -/
def UP (l : List Tl) (P : List Pg) : Prop := blks false 0 l = P.map fun p => (p.q, 0)
theorem tk_up {M t : Nat} {l : List Tl} {P : List Pg} (hk : TK M t P) (hl : TL P.length l) : UP l P := by
  unfold UP
  rw [tl_used hl]
  apply List.ext_getElem
  · simp
  · intro i h1 h2
    have h3 : i < P.length := by simpa using h2
    simp [hk.q i h3]
theorem rises_map {P : List Pg} (h : RisesQ P) : Rises (P.map fun p => (p.q, 0)) := by
  unfold Rises
  rw [List.pairwise_map]
  exact h
theorem up_give {top : Nat} {l l' : List Tl} {P P' : List Pg} (h : UP l P) (hr : RisesQ P)
    (hc : (l' = l ∧ P'.map Pg.q = P.map Pg.q) ∨ ∃ P1 p P2, P = P1 ++ p :: P2 ∧ P' = P1 ++ P2 ∧ ∃ a d, l = a ++ (0, false) :: d ∧ p.q = span a ∧ l' = melt top a.reverse 0 d) : UP l' P' := by
  rcases hc with ⟨rfl, e⟩ | ⟨P1, p, P2, rfl, rfl, a, d, rfl, hp, rfl⟩
  · unfold UP at h ⊢
    rw [h]
    have : ∀ Q : List Pg, (Q.map fun p => (p.q, 0)) = (Q.map Pg.q).map fun q => (q, 0) := fun Q => by rw [List.map_map]; rfl
    rw [this, this, e]
  · unfold UP at h ⊢
    rw [melt_used, List.reverse_reverse, span_rev]
    rw [blks_same, List.map_append, List.map_cons] at h
    have hr2 := rises_map hr
    rw [List.map_append, List.map_cons, ← h] at hr2
    have e := split_one (x := (span a, 0)) hr2 (h.trans (by rw [hp]))
    rw [List.map_append, ← e.1, ← e.2]
theorem up_nil {top : Nat} {l : List Tl} (h : UP l []) (hg : Good top l) : l = [(top, true)] := good_free hg fun t ht => by
  obtain ⟨k, f⟩ := t
  cases f with
  | true => rfl
  | false =>
    obtain ⟨a, d, rfl⟩ := List.append_of_mem ht
    have := blks_at false 0 a d k
    unfold UP at h
    rw [h] at this
    cases this
set_option maxRecDepth 100000 in
set_option maxHeartbeats 3200000 in
theorem alive_any (W : World) (hT : TabZ W) : Calls Tryd.prog 7 #[] W fun e w' => e = .returned (.bool true) ∧ Below W.heap.size W w' := by
  have HT := Lib.hid hT
  clear hT
  go_enter Tryd.func7, Tryd.ntmps7
  go_wp2_with fail
  refine (new_g 65536 6 65536 rfl (by decide) (by omega) (by omega) _ HT.out).mono ?_
  rintro e w1 ⟨b, gm, gw, mu, rfl, h1⟩
  have H1 := Lib.hid h1.rebase
  clear h1
  go_wp2_with fail
  refine (new_s 6 gm gw mu H1.out (size := 64) (by omega) (by omega) (by decide) 15 64 rfl).mono ?_
  rintro e w2 ⟨c, rfl, h2⟩
  have H2 := Lib.hid h2
  clear h2
  go_wp2_with fail
  refine (take_tk H2.out HT.out (by omega) (by omega) (by omega) (by decide) 0 (tk_start 15 (by omega)) (tl_start 6)).mono ?_
  rintro e w3 (⟨rfl, l3, P3, h3, k3, t3, _⟩ | ⟨_, _, hf, _⟩)
  rotate_left
  · have := hf (6, true) List.mem_cons_self
    cases this
  rw [show atC 15 64 0 = 64 by decide]
  have H3 := Lib.hid h3
  have K3 := Lib.hid k3
  have T3 := Lib.hid t3
  clear h3 k3 t3
  go_wp2_with fail
  refine (take_tk H3.out HT.out (by omega) (by omega) (by omega) (by decide) 1 K3.out T3.out).mono ?_
  rintro e w4 (⟨rfl, l4, P4, h4, k4, t4, _⟩ | ⟨_, hf, _⟩)
  rotate_left
  · cases hf
  rw [show atC 15 64 1 = 128 by decide]
  have H4 := Lib.hid h4
  have hu4 := tk_used (size := 64) (by omega) k4
  have hl4 : P4.length = 1 := by rw [k4.len]
  have UP4 := Lib.hid (tk_up k4 t4)
  have L4 := Lib.hid (tk_lay (top := 6) (by omega) k4 t4)
  rw [show (List.range (1 + 1)).map (atC 15 64) = [64, 128] by decide] at hu4
  have U4 := Lib.hid hu4
  have HL4 := Lib.hid hl4
  clear h4 k4 t4 hu4 hl4
  go_wp2_with fail
  refine (slabs_s H4.out L4.out 1 HL4.out.symm).mono ?_
  rintro e w5 ⟨A5, c5, rfl, _, h5, _⟩
  have H5 := Lib.hid h5
  clear h5
  go_wp2_with fail
  refine (giveyes_s H5.out L4.out (by omega) (by omega) (by decide) 64 (by rw [U4.out]; decide)).mono ?_
  rintro e w6 ⟨rfl, l6, P6, h6, hl6, hu6, hc6⟩
  have H6 := Lib.hid h6
  have L6 := Lib.hid hl6
  have U6 := Lib.hid hu6
  have UP6 := Lib.hid (up_give UP4.out H5.out.rise hc6)
  clear h6 hl6 hu6 hc6
  go_wp2_with fail
  refine (giveno_s H6.out L6.out (by omega) (by omega) 64 (by decide) (fun hc => ((U6.out 64).1 hc).2 rfl)).mono ?_
  rintro e w7 ⟨rfl, h7⟩
  have H7 := Lib.hid h7
  clear h7
  go_wp2_with fail
  refine (giveyes_s H7.out L6.out (by omega) (by omega) (by decide) 128 ((U6.out 128).2 ⟨by rw [U4.out]; decide, by decide⟩)).mono ?_
  rintro e w8 ⟨rfl, l8, P8, h8, hl8, hu8, hc8⟩
  have hP8 : P8 = [] := lay_empty (size := 64) hl8 fun y hy => by
    have h1 := (hu8 y).1 hy
    have h2 := (U6.out y).1 h1.1
    rw [U4.out] at h2
    simp only [List.mem_cons, List.not_mem_nil, or_false] at h2
    rcases h2 with ⟨rfl | rfl, h3⟩
    · exact h3 rfl
    · exact h1.2 rfl
  have hup := up_give UP6.out H7.out.rise hc8
  subst hP8
  have hl1 := up_nil hup h8.good
  subst hl1
  have H8 := Lib.hid h8
  clear h8 hl8 hu8 hc8 hup
  go_wp2_with fail
  refine (size_s H8.out 64 rfl).mono ?_
  rintro e w' ⟨rfl, hw'⟩
  have hw2 := hw'.symm
  clear hw'
  subst hw2
  go_wp2_with fail
  refine (many_s H8.out (by omega) (by decide) 15 rfl).mono ?_
  rintro e w' ⟨rfl, hw'⟩
  have hw2 := hw'.symm
  clear hw'
  subst hw2
  go_wp2_with fail
  refine (used_s H8.out HT.out (lay_nil _ _ _) (by omega) (by omega) 0 rfl).mono ?_
  rintro e w9 ⟨A9, c9, rfl, _, h9, _⟩
  have H9 := Lib.hid h9
  clear h9
  go_wp2_with fail
  refine (slabs_s H9.out (lay_nil _ _ _) 0 rfl).mono ?_
  rintro e w10 ⟨A10, c10, rfl, _, h10, _⟩
  have H10 := Lib.hid h10
  clear h10
  go_wp2_with fail
  refine (left_s H10.out HT.out 65536 (by decide)).mono ?_
  rintro e w11 ⟨rfl, h11⟩
  have H11 := Lib.hid h11
  clear h11
  go_wp2_with fail
  refine (snew_no b 17 (.inr (.inr (by decide))) (by decide) _).mono ?_
  rintro e w' ⟨rfl, hw'⟩
  have hw2 := hw'.symm
  clear hw'
  subst hw2
  go_wp2
  go_ret
  exact ⟨rfl, H11.out.way⟩
theorem SGx.hold {gm gw : Nat → Nat} {mu : Nat} {A : Option Addr} {cap : Nat} (h : SGx W K w c b size M top gm gw mu n l A cap P) {g : Nat} {cs : Array Value} {t : TypeId} (hg : w.heap[g]? = some (.cells cs t (0, 0))) (h1 : t ≠ 95) (h2 : t ≠ 73) (h3 : t ≠ 71) : SGx W ((g, .cells cs t (0, 0)) :: K) w c b size M top gm gw mu n l A cap P :=
  ⟨h.bg, h.row, h.own, h.maps, h.gws, h.rise, h.cnew, h.pnew, h.sep, fun x hx => by
    rcases List.mem_cons.1 hx with rfl | hx
    · exact hg
    · exact h.kept x hx, fun x hx => by
    rcases List.mem_cons.1 hx with rfl | hx
    · exact ⟨two_types hg h.row h3, h.bg.not_mu hg⟩
    · exact h.knc x hx, fun x hx => by
    rcases List.mem_cons.1 hx with rfl | hx
    · exact h.bg.not_gw hg h1
    · exact h.kgw x hx, fun x hx p hp => by
    rcases List.mem_cons.1 hx with rfl | hx
    · exact two_types hg (h.maps p hp).2.1 h1
    · exact h.kpg x hx p hp, fun x hx e => by
    rcases List.mem_cons.1 hx with rfl | hx
    · obtain ⟨ds, hd⟩ := h.rowne e
      exact two_types hg hd h2 rfl
    · exact h.kA x hx e⟩
theorem SGx.sub {gm gw : Nat → Nat} {mu : Nat} {A : Option Addr} {cap : Nat} {K' : List (Nat × Obj)} (h : SGx W K w c b size M top gm gw mu n l A cap P) (hk : ∀ x ∈ K', x ∈ K) : SGx W K' w c b size M top gm gw mu n l A cap P :=
  ⟨h.bg, h.row, h.own, h.maps, h.gws, h.rise, h.cnew, h.pnew, h.sep, fun x hx => h.kept x (hk x hx), fun x hx => h.knc x (hk x hx), fun x hx => h.kgw x (hk x hx), fun x hx => h.kpg x (hk x hx), fun x hx => h.kA x (hk x hx)⟩
theorem u8_size (s : Nat) (hs : s ≤ 255) (S : Int) (hS : (s : Int) = S) : ∃ (R Q Z : Int) (size : Nat), IntKind.i64.wrap S = S ∧ S.tmod 32 = R ∧ IntKind.i64.wrap (16 * R) = Q ∧ IntKind.i64.wrap (16 + Q) = Z ∧ Z = (size : Int) ∧ 16 ≤ size ∧ size ≤ 512 ∧ (size : Int).tmod 16 = 0 ∧ size = 16 + 16 * (s % 32) := by
  refine ⟨((s % 32 : Nat) : Int), ((16 * (s % 32) : Nat) : Int), ((16 + 16 * (s % 32) : Nat) : Int), 16 + 16 * (s % 32), ?_, ?_, ?_, ?_, rfl, by omega, by omega, ?_, rfl⟩
  · rw [IntKind.wrap_i64]; omega
  · rw [← hS, Int.tmod_eq_emod_of_nonneg (by omega)]; rfl
  · rw [IntKind.wrap_i64]; omega
  · rw [IntKind.wrap_i64]; omega
  · rw [Int.tmod_eq_emod_of_nonneg (by omega)]; omega
end Go.Proofs.YtbadoihpbemjjaaDoor
/- What an argument that is a slice of ints is in memory; the table of TrailingZeros64 as the rows list it; the post of a row whose law only makes blocks. No condition. -/
namespace Go.Proofs.YtbadoihpbemjjaaDoor
open Go.ChangeShapes Go.WideShapes Go.ChangeAt Go.RowKit Go.Deep

theorem addr_of_cell {w : World} {a : Addr} {v : Value} (h : w.cell? a = some v) : a = ⟨a.block, a.off, none⟩ ∧ a.block < w.heap.size := by
  refine ⟨?_, World.block_lt_of_cell? w a h⟩
  obtain ⟨b, o, s⟩ := a
  cases s with
  | none => rfl
  | some x =>
    simp only [World.cell?] at h
    split at h <;> simp at h

theorem add_off (b off i : Nat) : (⟨b, off, none⟩ : Addr).add i = ⟨b, off + i, none⟩ := by unfold Addr.add; split <;> simp_all

theorem gTab : Tryd.prog.globalNamed "math/bits.deBruijn64tab" = some 1 := by kernel_rfl
theorem gTabType : (Tryd.prog.globals[1]?).map (·.type) = some 108 := by kernel_rfl
theorem tabz_of_laid {W : World} (h : laidMetH Tryd.prog Rows.slabBackRow.laid W) : TabZ W := by
  obtain ⟨ps, ⟨_, _, _, _, _, _, _, _, _, _, ⟨g', t', cs, fuel, p, q, hg', ht', hvar, hd, _, _⟩, _⟩, _⟩ := (h : laidMet _ _ _)
  obtain rfl := Option.some.inj (gTab.symm.trans hg')
  obtain rfl := Option.some.inj (gTabType.symm.trans ht')
  obtain ⟨xs, m, rfl, hx, hlen, hn, hel⟩ := DataW.trod_array Tryd.underlying108 hd
  have c1 : Tryd.prog.cellsOf 5 = 1 := by kernel_rfl
  have hl : ∃ l, (Rows.laid_math_bits_deBruijn64tab : DataW Unit) = .agg l ∧ l = Lib.deBruijn64tab.map fun (t : Nat) => .lit (.int .u8 (t : Int)) := ⟨_, rfl, rfl⟩
  obtain ⟨l, hl1, hl2⟩ := hl
  simp only [Prod.mk.injEq] at hx
  rw [hl1] at hx
  have hmap : l = xs.map (·.1) := by
    have := hx.1
    injection this
  intro k hk
  have hxk : xs[k]? = some xs[k] := List.getElem?_eq_getElem (by omega)
  have h := (hel k hk).trans hxk
  obtain ⟨a, hc, hd2, _⟩ := DataW.trod_int Tryd.underlying5 h
  rw [c1] at hc
  have hak : Lib.deBruijn64tab[k]? = some (Lib.deBruijn64tab.getD k 0) := by
    have : k < Lib.deBruijn64tab.length := hk
    simp [List.getD, List.getElem?_eq_getElem this]
  have hrow : (xs.map (·.1))[k]? = some (.lit (.int .u8 ((Lib.deBruijn64tab.getD k 0 : Nat) : Int))) := by
    rw [← hmap, hl2, List.getElem?_map, hak]; rfl
  rw [List.getElem?_map, hxk] at hrow
  simp only [Option.map_some, Option.some.injEq] at hrow
  rw [hd2] at hrow
  simp only [DataW.lit.injEq, Lit.int.injEq, true_and] at hrow
  rw [← hrow]
  have cell : ∀ j u, ([.int .u8 a] : List Value)[j]? = some u → W.cell? ⟨1, k * 1 + j, none⟩ = some u := by
    intro j u hu
    rw [World.var?_cell gTab hvar, ← hc] at *
    rw [List.getElem?_take] at hu
    split at hu
    · rw [List.getElem?_drop] at hu
      simpa using hu
    · cases hu
  have := cell 0 _ rfl
  simpa using this

section
variable {H : Type} {enc : TypeId × Value → H} {P : Program}

theorem trodAll_below (hl : laidOutB P = true) {W W' : World} (hb : Below W.heap.size W W') {sp : Nat → Bool} : ∀ {ts : List TypeId} {vs : List Value} {ds : List (DataW H)} {ps : List MemPlace},
    (∀ t ∈ ts, P.readableRec t = true ∧ t < P.types.size) → DataW.TrodAll enc P W 0 (fun _ => true) true ts vs ds ps → (∀ x ∈ ps, x.block < W.heap.size) → (∀ x ∈ ps, sp x.block = true) → DataW.TrodAll enc P W' 0 sp true ts vs ds ps
  | [], _, _, _, _, h, _, _ => by
    obtain ⟨rfl, rfl, rfl⟩ := trodAll_nil h
    exact trodAll_mk0
  | t :: ts, _, _, _, ht, h, hlt, hsp => by
    obtain ⟨v0, vs0, d0, ds0, p0, q0, rfl, rfl, rfl, h0, r0⟩ := trodAll_cons h
    refine trodAll_cons_mk (WideElems.Trod_stays hl (ht t (by simp)).1 (ht t (by simp)).2 h0 (fun x hx => hb.same (hlt x (by simp [hx]))) (fun x hx => hsp x (by simp [hx])))
      (trodAll_below hl hb (fun u hu => ht u (by simp [hu])) r0 (fun x hx => hlt x (by simp [hx])) (fun x hx => hsp x (by simp [hx])))

theorem post_true {f : Func} {s : ChangeSpec} {apart fresh handsOn again : Bool} {W W' : World} {args : Array Value} {ds gs : List (DataW H)} {before : List MemPlace} {tb : TypeId}
    (hl : laidOutB P = true) (hp : ∀ t ∈ f.params.toList, P.readableRec t = true ∧ t < P.types.size) (hrt : f.resultTypes = #[tb]) (htb : P.underlying tb = some .bool) (hsv : s.vars = [])
    (hW : DataW.Whole enc P f.params.toList s.vars apart W args.toList ds gs before) (hs : ∀ ds', gs = [] → ds' = ds ++ gs → s.fn H ds' = { results := [.lit (.bool true)], args := ds }) (hb : Below W.heap.size W W') :
    s.post enc P f apart fresh handsOn again W args (.bool true) W' := by
  have hWt := hW.lt
  have hW' := hW
  obtain ⟨p, q, hA, hV, rfl, hz, hn⟩ := hW
  rw [hsv] at hV
  obtain ⟨rfl, rfl⟩ := trodVars_none hV
  have hs := hs _ rfl rfl
  have hltp : ∀ x ∈ p, x.block < W.heap.size := fun x hx => hWt x (by simp [hx])
  have hargs : ∀ sp : Nat → Bool, (∀ x ∈ p, sp x.block = true) → DataW.TrodAll enc P W' 0 sp true f.params.toList args.toList (s.fn H (ds ++ [])).args p := fun sp hsp => by
    rw [hs]; exact trodAll_below hl hb hp hA hltp hsp
  have hres : ∀ (b : Nat) (sp : Nat → Bool) (hd : Bool), DataW.TrodAll enc P W' b sp hd f.resultTypes.toList ((Value.bool true).resultList f.resultTypes.size) (s.fn H (ds ++ [])).results [] := fun b sp hd => by
    rw [hs, hrt]
    exact trodAll_cons_mk (shut_bool htb _) trodAll_mk0
  have hvars : ∀ sp : Nat → Bool, DataW.TrodVars enc P W' sp s.vars (s.fn H (ds ++ [])).vars [] := fun sp => by
    rw [hs, hsv]; rfl
  have hold : ∀ x ∈ p, (fun b => decide (b < W.heap.size)) x.block = true := fun x hx => by simpa using hltp x hx
  refine ⟨ds, [], p ++ [], [], p, [], hW', hres _ _ _, hargs _ hold, hvars _, World.keptBut_mono (fun x hx => ⟨hx, ?_⟩) (hb.frame (· ∈ p ++ [])), fun _ => ?_⟩
  · right; simpa using hx
  · refine ⟨ok_one hrt rfl (okWide_bool_mk htb _), _, _, ([] ++ p) ++ [], ⟨[] ++ p, [], trodAll_append (hargs _ (fun _ _ => rfl)) (hres _ _ _), hvars _, rfl, ?_, ?_⟩, ?_⟩
    · intro b off hx
      refine (hb.frozen ?_).trans (hz b off (by simpa using hx))
      exact hltp _ (by simpa using hx)
    · intro ha
      simpa using hn ha
    · intro x hx _
      simpa using hx
end
end Go.Proofs.YtbadoihpbemjjaaDoor
