/- The program's cache and the reference's, side by side. No condition. And what follows from it. -/
import Derived.Test.YtbadoihpbemjjaaDoorY42
/- The program's cache and the reference's, side by side. No condition. -/
namespace Go.Proofs.YtbadoihpbemjjaaDoor
open Go.RowKit Go.Maps

structure SA (W w : World) (b c q r size M top n : Nat) (l : List Tl) (P : List Pg) (A1 : Option Addr) (c1 : Nat) (A2 : Option Addr) (c2 : Nat) (lr : List Tl) (S1 : Option Addr) (d1 : Nat) (SL : List Int) (S2 : Option Addr) (d2 : Nat) (UL : List Int) : Prop where
  sg : SG W [] w c b size M top n l P
  rc : RC w r q size top A1 c1 A2 c2 lr S1 d1 SL S2 d2 UL
  lay : Lay top M l P
  hq : W.heap.size ≤ q
  hr : W.heap.size ≤ r
theorem SG.monon {W w : World} {K : List (Nat × Obj)} {c b size M top n n' : Nat} {l : List Tl} {P : List Pg} (h : SG W K w c b size M top n l P) (hn : n ≤ n') : SG W K w c b size M top n' l P := by
  obtain ⟨gm, gw, mu, A, cap, h⟩ := h
  exact ⟨gm, gw, mu, A, cap, h.monon hn⟩
section
variable {W w w' : World} {b c q r size M top n : Nat} {l lr : List Tl} {P : List Pg} {A1 A2 S1 S2 : Option Addr} {c1 c2 d1 d2 : Nat} {SL UL : List Int}
theorem SA.mono {n' : Nat} (h : SA W w b c q r size M top n l P A1 c1 A2 c2 lr S1 d1 SL S2 d2 UL) (hn : n ≤ n') : SA W w b c q r size M top n' l P A1 c1 A2 c2 lr S1 d1 SL S2 d2 UL := ⟨h.sg.monon hn, h.rc, h.lay, h.hq, h.hr⟩
theorem SA.below (h : SA W w b c q r size M top n l P A1 c1 A2 c2 lr S1 d1 SL S2 d2 UL) (hb : Below w.heap.size w w') : SA W w' b c q r size M top n l P A1 c1 A2 c2 lr S1 d1 SL S2 d2 UL := ⟨h.sg.below hb, h.rc.below hb, h.lay, h.hq, h.hr⟩
theorem SA.way (h : SA W w b c q r size M top n l P A1 c1 A2 c2 lr S1 d1 SL S2 d2 UL) : Below W.heap.size W w := h.sg.way
/-- the program's side turns, whatever it is -/
theorem SA.prog (h : SA W w b c q r size M top n l P A1 c1 A2 c2 lr S1 d1 SL S2 d2 UL) : ∃ K, SG W K w c b size M top n l P ∧ ∀ n' l' P' w', SG W K w' c b size M top n' l' P' → Lay top M l' P' → SA W w' b c q r size M top n' l' P' A1 c1 A2 c2 lr S1 d1 SL S2 d2 UL := by
  obtain ⟨K, hK, hb⟩ := h.sg.all
  refine ⟨K, hK, fun n' l' P' w' h' hl => ?_⟩
  obtain ⟨h1, h2⟩ := hb n' l' P' w' h'
  exact ⟨h1, h.rc.keep h2, hl, h.hq, h.hr⟩
theorem lay_q (h : Lay top M l P) (hg : Good top l) (ht : top ≤ 6) : ∀ p ∈ P, p.q < 64 := fun p hp => by
  have h1 := (blks_lt (h.mem p hp)).2
  have h2 := hg.all
  have h3 : 2 ^ top ≤ 2 ^ 6 := Nat.pow_le_pow_right (by decide) ht
  simp only at h1
  omega
theorem lay_short (h : Lay top M l P) (hg : Good top l) (ht : top ≤ 6) (hr : RisesQ P) : P.length ≤ 64 := rise_len hr (lay_q h hg ht)
theorem used_short (h : Lay top M l P) (hg : Good top l) (ht : top ≤ 6) (hr : RisesQ P) (hM : M ≤ 60) (size : Nat) : (usedC M size P).length ≤ 3840 := by
  have h1 := usedC_length M size P
  have h2 : P.length * M ≤ 64 * 60 := Nat.mul_le_mul (lay_short h hg ht hr) hM
  omega
theorem sap_take (h : SA W w b c q r size M top n l P A1 c1 A2 c2 l S1 d1 SL S2 d2 UL) (hT : TabZ W) (hn : n < 1000) (hs : 16 ≤ size) (hs2 : size ≤ 512) (hM : M = 960 / size) :
    Calls Tryd.prog 10 #[.pointer (some ⟨c, 0, none⟩)] w fun e w' => ∃ x er l' P', e = .returned (.tuple #[.int .i64 x, .int .i64 er]) ∧ TakeS top M size l P x er l' P' ∧ SA W w' b c q r size M top (n + 1) l' P' A1 c1 A2 c2 l S1 d1 SL S2 d2 UL := by
  obtain ⟨m1, m2⟩ := size_many hs hs2 hM
  obtain ⟨K, hK, hb⟩ := h.prog
  refine (take_s hK hT hn hs hs2 hM h.lay).mono ?_
  rintro e w' ⟨x, er, l', P', he, hts, h2⟩
  exact ⟨x, er, l', P', he, hts, hb _ _ _ _ h2 (hts.lay h.lay h.sg.wf m1)⟩
theorem sar_take {wo : World} {n' : Nat} {x er : Int} {l' : List Tl} {P' : List Pg} {B1 B2 T1 T2 : Option Addr} {e1 e2 f1 f2 : Nat} {SL0 UL0 : List Int}
    (ho : SA W wo b c q r size M top n' l P B1 e1 B2 e2 l T1 f1 SL0 T2 f2 UL0) (hts : TakeS top M size l P x er l' P')
    (h : SA W w b c q r size M top n l' P' A1 c1 A2 c2 l S1 d1 (slabsC P) S2 d2 (usedC M size P)) (ht : top ≤ 6) (hs : 16 ≤ size) (hs2 : size ≤ 512) (hM : M = 960 / size) :
    Calls Tryd.prog 21 #[.pointer (some ⟨r, 0, none⟩)] w fun e w' => e = .returned (.tuple #[.int .i64 x, .int .i64 er]) ∧ ∃ A1 c1 A2 c2 S1 d1 S2 d2, SA W w' b c q r size M top n l' P' A1 c1 A2 c2 l' S1 d1 (slabsC P') S2 d2 (usedC M size P') := by
  obtain ⟨m1, m2⟩ := size_many hs hs2 hM
  have hsh := lay_short ho.lay ho.sg.good ht ho.sg.rise
  have hus := used_short ho.lay ho.sg.good ht ho.sg.rise m2 size
  refine (rctake h.rc ho.sg.good (by omega) hs hs2 hM (fun y hy => ?_) (by rw [slabsC_length]; omega) (by omega) W.heap.size h.hr h.hq).mono ?_
  · obtain ⟨p, hp, rfl⟩ := mem_slabsC.1 hy
    have := lay_q ho.lay ho.sg.good ht p hp
    omega
  rintro e w' ⟨at_, er2, l2, SL', UL', rfl, hR, ⟨B1', e1', B2', e2', T1', f1', T2', f2', hrc⟩, hrt⟩
  obtain ⟨t1, t2, t3, t4, t5⟩ := take_join hts ho.lay ho.sg.rise h.sg.rise ho.sg.wf hM (by omega) m1 hR
  subst t1 t2 t3 t4 t5
  exact ⟨rfl, _, _, _, _, _, _, _, _, h.sg.rt hrt, hrc, h.lay, h.hq, h.hr⟩
/-- what giving does -/
def GvS (top M size : Nat) (l : List Tl) (P : List Pg) (X er : Int) (l' : List Tl) (P' : List Pg) : Prop :=
  (X ∉ usedC M size P ∧ er = 6 ∧ l' = l ∧ P' = P) ∨ (X ∈ usedC M size P ∧ er = 0 ∧ (∀ y, y ∈ usedC M size P' ↔ y ∈ usedC M size P ∧ y ≠ X) ∧
      ((l' = l ∧ P'.map Pg.q = P.map Pg.q) ∨ ∃ P1 p P2, P = P1 ++ p :: P2 ∧ P' = P1 ++ P2 ∧ ∃ a d, l = a ++ (0, false) :: d ∧ p.q = span a ∧ l' = melt top a.reverse 0 d))
theorem sap_give (h : SA W w b c q r size M top n l P A1 c1 A2 c2 l S1 d1 SL S2 d2 UL) (hs : 16 ≤ size) (hs2 : size ≤ 512) (hM : M = 960 / size) (X : Int) (hX : (Lit.int .i64 X).wf = true) :
    Calls Tryd.prog 12 #[.pointer (some ⟨c, 0, none⟩), .int .i64 X] w fun e w' => ∃ er l' P', e = .returned (.int .i64 er) ∧ GvS top M size l P X er l' P' ∧ SA W w' b c q r size M top n l' P' A1 c1 A2 c2 l S1 d1 SL S2 d2 UL := by
  obtain ⟨K, hK, hb⟩ := h.prog
  by_cases hm : X ∈ usedC M size P
  · refine (giveyes_s hK h.lay (by omega) hs2 hM X hm).mono ?_
    rintro e w' ⟨he, l', P', h2, hl, hu, hc⟩
    exact ⟨0, l', P', he, .inr ⟨hm, rfl, hu, hc⟩, hb _ _ _ _ h2 hl⟩
  · refine (giveno_s hK h.lay (by omega) hs2 X hX hm).mono ?_
    rintro e w' ⟨he, h2⟩
    exact ⟨6, l, P, he, .inl ⟨hm, rfl, rfl, rfl⟩, hb _ _ _ _ h2 h.lay⟩
theorem used_wide (hl : Lay top M l P) (hg : Good top l) (ht : top ≤ 6) (hM : M = 960 / size) {X : Int} (hX : X ∈ usedC M size P) : 0 ≤ X ∧ X ≤ 65536 := by
  obtain ⟨p, hp, j, hj, _, rfl⟩ := mem_usedC.1 hX
  have := lay_q hl hg ht p hp
  have := place_end hM hj
  omega
theorem sar_give {wo : World} {n' : Nat} {X er : Int} {l' : List Tl} {P' : List Pg} {B1 B2 T1 T2 : Option Addr} {e1 e2 f1 f2 : Nat} {SL0 UL0 : List Int}
    (ho : SA W wo b c q r size M top n' l P B1 e1 B2 e2 l T1 f1 SL0 T2 f2 UL0) (hts : GvS top M size l P X er l' P')
    (h : SA W w b c q r size M top n l' P' A1 c1 A2 c2 l S1 d1 (slabsC P) S2 d2 (usedC M size P)) (ht : top ≤ 6) (hs : 16 ≤ size) (hs2 : size ≤ 512) (hM : M = 960 / size) :
    Calls Tryd.prog 22 #[.pointer (some ⟨r, 0, none⟩), .int .i64 X] w fun e w' => e = .returned (.int .i64 er) ∧ ∃ A1 c1 A2 c2 S1 d1 S2 d2, SA W w' b c q r size M top n l' P' A1 c1 A2 c2 l' S1 d1 (slabsC P') S2 d2 (usedC M size P') := by
  obtain ⟨m1, m2⟩ := size_many hs hs2 hM
  have hsh := lay_short ho.lay ho.sg.good ht ho.sg.rise
  have hus := used_short ho.lay ho.sg.good ht ho.sg.rise m2 size
  refine (rcgive h.rc ho.sg.good (by omega) hs hs2 hM X (fun hX => ?_) (by rw [slabsC_length]; omega) (by omega) W.heap.size h.hr h.hq).mono ?_
  · have := used_wide ho.lay ho.sg.good ht hM hX
    omega
  rintro e w' ⟨er2, l2, SL', UL', rfl, hR, ⟨B1', e1', B2', e2', T1', f1', T2', f2', hrc⟩, hrt⟩
  rcases hts with ⟨hn, rfl, rfl, rfl⟩ | ⟨hm, rfl, hu, hc⟩
  · cases hR with
    | no _ => exact ⟨rfl, _, _, _, _, _, _, _, _, h.sg.rt hrt, hrc, h.lay, h.hq, h.hr⟩
    | some hx => exact absurd hx hn
    | all hx => exact absurd hx hn
  · obtain ⟨t1, t2, t3, t4⟩ := give_join ho.lay h.lay ho.sg.rise h.sg.rise hM (by omega) hm hu hc hR
    subst t1 t2 t3 t4
    exact ⟨rfl, _, _, _, _, _, _, _, _, h.sg.rt hrt, hrc, h.lay, h.hq, h.hr⟩
theorem sap_blk (h : SA W w b c q r size M top n l P A1 c1 A2 c2 l S1 d1 SL S2 d2 UL) (hT : TabZ W) (hn : n < 1000) (o : Int) :
    Calls Tryd.prog 23 #[.pointer (some ⟨b, 0, none⟩), .int .i64 o] w fun e w' => ∃ at_ er l', e = .returned (.tuple #[.int .i64 at_, .int .i64 er]) ∧ TakeR top l o at_ er l' ∧ SA W w' b c q r size M top (n + 1) l' P A1 c1 A2 c2 l S1 d1 SL S2 d2 UL := by
  obtain ⟨K, ⟨gm, gw, mu, A, cap, hK⟩, hb⟩ := h.prog
  refine (take_g hK.bg.rebase hT o hn).mono ?_
  rintro e w' ⟨at_, er, l', he, hR, h2⟩
  exact ⟨at_, er, l', he, hR, hb _ _ _ _ ⟨gm, gw, mu, A, cap, hK.buddy h2⟩ (take_lay hR h.lay)⟩
theorem sar_blk {l' : List Tl} (h : SA W w b c q r size M top n l' P A1 c1 A2 c2 l S1 d1 SL S2 d2 UL) (hg : Good top l) (ht : top ≤ 6) (o at_ er : Int) (hR : TakeR top l o at_ er l') :
    Calls Tryd.prog 24 #[.pointer (some ⟨q, 0, none⟩), .int .i64 o] w fun e w' => e = .returned (.tuple #[.int .i64 at_, .int .i64 er]) ∧ ∃ A1 c1 A2 c2, SA W w' b c q r size M top n l' P A1 c1 A2 c2 l' S1 d1 SL S2 d2 UL := by
  refine (rtake_any h.rc.rb hg (by omega) o).mono ?_
  rintro e w' ⟨a1, e1, rfl, l1, hr, ⟨B1, f1, B2, f2, hrb⟩, hgr⟩
  have h1 := hR.eq
  rw [hr.eq] at h1
  injection h1 with t1 t2
  injection t2 with t2 t3
  subst t1 t2 t3
  exact ⟨rfl, _, _, _, _, h.sg.rt (h.rc.stepG (RT.refl _) h.hq hgr), h.rc.turn hgr hrb, h.lay, h.hq, h.hr⟩
theorem sa_has (h : SA W w b c q r size M top n l P A1 c1 A2 c2 lr S1 d1 SL S2 d2 UL) (hs : 16 ≤ size) (hs2 : size ≤ 512) (hM : M = 960 / size) (X : Int) (hX : (Lit.int .i64 X).wf = true) (B : Bool) (hB : B = true ↔ X ∈ usedC M size P) :
    Calls Tryd.prog 19 #[.pointer (some ⟨c, 0, none⟩), .int .i64 X] w fun e w' => e = .returned (.bool B) ∧ SA W w' b c q r size M top n l P A1 c1 A2 c2 lr S1 d1 SL S2 d2 UL := by
  obtain ⟨K, hK, hb⟩ := h.prog
  exact (has_s hK h.lay (by omega) hs2 hM X hX B hB).mono fun e w' ⟨he, h2⟩ => ⟨he, hb _ _ _ _ h2 h.lay⟩
theorem sa_rhas (h : SA W w b c q r size M top n l P A1 c1 A2 c2 lr S1 d1 SL S2 d2 (usedC M size P)) (ht : top ≤ 6) (hs : 16 ≤ size) (hs2 : size ≤ 512) (hM : M = 960 / size) (X : Int) (B : Bool) (hB : B = true ↔ X ∈ usedC M size P) :
    Calls Tryd.prog 25 #[.pointer (some ⟨r, 0, none⟩), .int .i64 X] w fun e w' => e = .returned (.bool B) ∧ w' = w := by
  have := used_short h.lay h.sg.good ht h.sg.rise (size_many hs hs2 hM).2 size
  exact rhas_any h.rc (by omega) X B hB
theorem sa_used (h : SA W w b c q r size M top n l P A1 c1 A2 c2 lr S1 d1 SL S2 d2 UL) (hT : TabZ W) (hs : 16 ≤ size) (hs2 : size ≤ 512) (hM : M = 960 / size) (m : Nat) (hm : (usedC M size P).length = m) :
    Calls Tryd.prog 11 #[.pointer (some ⟨c, 0, none⟩)] w fun e w' => ∃ A' k', e = .returned (.slice A' m k') ∧ SlR w' A' (i64s (usedC M size P)) ∧ SA W w' b c q r size M top n l P A1 c1 A2 c2 lr S1 d1 SL S2 d2 UL :=
  (used_s h.sg hT h.lay hs2 (size_many hs hs2 hM).2 m hm.symm).mono fun e w' ⟨A', k', he, ho, _, hb⟩ => ⟨A', k', he, ownsRow_sl ho, h.below hb⟩
theorem sa_slabs (h : SA W w b c q r size M top n l P A1 c1 A2 c2 lr S1 d1 SL S2 d2 UL) (m : Nat) (hm : (slabsC P).length = m) :
    Calls Tryd.prog 14 #[.pointer (some ⟨c, 0, none⟩)] w fun e w' => ∃ A' k', e = .returned (.slice A' m k') ∧ SlR w' A' (i64s (slabsC P)) ∧ SA W w' b c q r size M top n l P A1 c1 A2 c2 lr S1 d1 SL S2 d2 UL :=
  (slabs_s h.sg h.lay m (by rw [← hm, slabsC_length])).mono fun e w' ⟨A', k', he, ho, _, hb⟩ => ⟨A', k', he, ownsRow_sl ho, h.below hb⟩
theorem sa_free (h : SA W w b c q r size M top n l P A1 c1 A2 c2 lr S1 d1 SL S2 d2 UL) (hT : TabZ W) (m : Nat) (hm : (blks true 0 l).length = m) :
    Calls Tryd.prog 13 #[.pointer (some ⟨b, 0, none⟩)] w fun e w' => ∃ A' k', e = .returned (.slice A' m k') ∧ SlR w' A' (bCells (blks true 0 l)) ∧ SA W w' b c q r size M top n l P A1 c1 A2 c2 lr S1 d1 SL S2 d2 UL := by
  obtain ⟨K, hK, hb⟩ := h.prog
  exact (free_s hK hT m hm.symm).mono fun e w' ⟨A', k', he, h2, hsl⟩ => ⟨A', k', he, hsl, hb _ _ _ _ h2 h.lay⟩
theorem sa_sameU (h : SA W w b c q r size M top n l P A1 c1 A2 c2 lr S1 d1 SL S2 d2 (usedC M size P)) (ht : top ≤ 6) (hs : 16 ≤ size) (hs2 : size ≤ 512) (hM : M = 960 / size) (m : Nat) (hm : (usedC M size P).length = m) (A : Option Addr) (ca : Nat) (hA : SlR w A (i64s (usedC M size P))) :
    Calls Tryd.prog 26 #[.slice A m ca, .slice S2 m d2] w fun e w' => e = .returned (.bool true) ∧ SA W w' b c q r size M top n l P A1 c1 A2 c2 lr S1 d1 SL S2 d2 (usedC M size P) := by
  have := used_short h.lay h.sg.good ht h.sg.rise (size_many hs hs2 hM).2 size
  exact (same_i (usedC M size P) m hm.symm (by omega) A S2 ca d2 w hA h.rc.ul.sl).mono fun e w' ⟨he, hb⟩ => ⟨he, h.below hb⟩
theorem sa_sameS (h : SA W w b c q r size M top n l P A1 c1 A2 c2 lr S1 d1 (slabsC P) S2 d2 UL) (ht : top ≤ 6) (m : Nat) (hm : (slabsC P).length = m) (A : Option Addr) (ca : Nat) (hA : SlR w A (i64s (slabsC P))) :
    Calls Tryd.prog 26 #[.slice A m ca, .slice S1 m d1] w fun e w' => e = .returned (.bool true) ∧ SA W w' b c q r size M top n l P A1 c1 A2 c2 lr S1 d1 (slabsC P) S2 d2 UL := by
  have := lay_short h.lay h.sg.good ht h.sg.rise
  have e1 := slabsC_length P
  exact (same_i (slabsC P) m hm.symm (by omega) A S1 ca d1 w hA h.rc.sl.sl).mono fun e w' ⟨he, hb⟩ => ⟨he, h.below hb⟩
theorem sa_sameF (h : SA W w b c q r size M top n l P A1 c1 A2 c2 l S1 d1 SL S2 d2 UL) (ht : top ≤ 6) (m : Nat) (hm : (blks true 0 l).length = m) (A : Option Addr) (ca : Nat) (hA : SlR w A (bCells (blks true 0 l))) :
    Calls Tryd.prog 27 #[.slice A m ca, .slice A1 m c1] w fun e w' => e = .returned (.bool true) ∧ SA W w' b c q r size M top n l P A1 c1 A2 c2 l S1 d1 SL S2 d2 UL := by
  have h1 := blks_length true 0 l
  have h2 := h.sg.good.all
  have h3 : 2 ^ top ≤ 2 ^ 6 := Nat.pow_le_pow_right (by decide) ht
  exact (same_b (blks true 0 l) m hm.symm A A1 ca c1 w hA h.rc.rb.f.sl (by omega)).mono fun e w' ⟨he, hb⟩ => ⟨he, h.below hb⟩
end
end Go.Proofs.YtbadoihpbemjjaaDoor
/- The walk of SlabActs, where the acts are too many or the size may not be. Condition: the size is an int. -/
namespace Go.Proofs.YtbadoihpbemjjaaDoor
open Go.RowKit Go.Maps

set_option maxRecDepth 100000 in
theorem sacts_long (S : Int) (A : Option Addr) (nl cap : Nat) (h : 200 < nl) (w : World) (hT : TabZ w) : Calls Tryd.prog 4 #[.int .i64 S, .slice A nl cap] w fun e w' => e = .returned (.bool true) ∧ Below w.heap.size w w' := by
  have i1 : (200 : Int) < (nl : Int) := by omega
  have HT := Lib.hid hT
  clear hT h
  go_enter Tryd.func4, Tryd.ntmps4
  go_wp2_with fail
  refine (alive_any _ HT.out).mono ?_
  rintro e w1 ⟨rfl, hb⟩
  have HB := Lib.hid hb
  clear hb
  go_wp2
  go_ret
  exact ⟨rfl, HB.out⟩
set_option maxRecDepth 100000 in
set_option maxHeartbeats 3200000 in
theorem sacts_nil (S : Int) (A : Option Addr) (nl cap : Nat) (h : nl ≤ 200) (hS : S < 16 ∨ 512 < S ∨ S.tmod 16 ≠ 0) (hw : (Lit.int .i64 S).wf = true) (w : World) (hT : TabZ w) : Calls Tryd.prog 4 #[.int .i64 S, .slice A nl cap] w fun e w' => e = .returned (.bool true) ∧ Below w.heap.size w w' := by
  have i1 : ¬ (200 : Int) < (nl : Int) := by omega
  have HT := Lib.hid hT
  have HS := Lib.hid hS
  have HW := Lib.hid hw
  clear hT h hS hw
  go_enter Tryd.func4, Tryd.ntmps4
  go_wp2_with fail
  refine (alive_any _ HT.out).mono ?_
  rintro e w1 ⟨rfl, hb⟩
  have HB := Lib.hid hb
  have TW : Hid (TabZ w1) := Lib.hid (HT.out.below HT.out.lt hb)
  clear hb
  go_wp2_with fail
  refine (new_g 65536 6 65536 rfl (by decide) (by omega) (by omega) _ TW.out).mono ?_
  rintro e w2 ⟨b, gm, gw, mu, rfl, h2⟩
  have HB2 := Lib.hid (HB.out.trans (h2.way.mono HB.out.size))
  clear h2
  go_wp2_with fail
  refine (snew_no b S HS.out HW.out _).mono ?_
  rintro e w3 ⟨rfl, rfl⟩
  go_wp2_with fail
  refine (rmay_no S HS.out _).mono ?_
  rintro e w3 ⟨rfl, rfl⟩
  go_wp2_with fail
  refine (stake_nil _).mono ?_
  rintro e w3 ⟨rfl, rfl⟩
  go_wp2_with fail
  refine (snew_nil 64 _).mono ?_
  rintro e w3 ⟨rfl, rfl⟩
  go_wp2_with fail
  refine (ssize_nil _).mono ?_
  rintro e w3 ⟨rfl, rfl⟩
  go_wp2_with fail
  refine (smany_nil _).mono ?_
  rintro e w3 ⟨rfl, rfl⟩
  go_wp2_with fail
  refine (sgive_nil 0 _).mono ?_
  rintro e w3 ⟨rfl, rfl⟩
  go_wp2_with fail
  refine (sused_nil _).mono ?_
  rintro e w4 ⟨A4, k4, rfl, hb4⟩
  have HB4 := Lib.hid (HB2.out.trans (hb4.mono HB2.out.size))
  clear hb4
  go_wp2_with fail
  refine (sslabs_nil _).mono ?_
  rintro e w5 ⟨rfl, rfl⟩
  go_wp2_with fail
  refine (shas_nil 64 _).mono ?_
  rintro e w6 ⟨rfl, rfl⟩
  go_wp2
  go_ret
  exact ⟨rfl, HB4.out⟩
end Go.Proofs.YtbadoihpbemjjaaDoor
