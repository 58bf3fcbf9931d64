/- The state of an allocator in memory: its row, its maps of free blocks, its map of used ones. No condition. And what follows from it. -/
import Derived.Test.YtflkoabgkgegjaaGreatDoorY3
import Derived.Test.YtflkoabgkgegjaaGreatDoorY5
import Derived.Maps.OwnSet
import Derived.Maps.RangeWalk
import Derived.Maps.Ext
import Derived.Deep.Cut
import Derived.Deep.DeepCutAuto
import Derived.WalkKit
import Derived.WalkLawsBesides
import Derived.WalkSpells
import Derived.Deep.QuietTactic
import Derived.Deep.RegionLaw
import Derived.Outline
import Derived.Lib.Hide
/- The state of an allocator in memory: its row, its maps of free blocks, its map of used ones. No condition. -/
namespace Go.Proofs.YtflkoabgkgegjaaGreatDoor
open Go.RowKit Go.Maps

/-- the map of used blocks: what each address has -/
def UsedAt (w : World) (mu n : Nat) (U : Int → Option Nat) : Prop :=
  ∃ D : DataW Unit, w.ownsMap Tryz.prog 3 (plainElem Tryz.prog 3) mu n D ∧ (∀ x, (Lit.int .i64 x).wf = true → Maps.has D (.int .i64 x) = (U x).isSome) ∧
    ∀ x k, (Lit.int .i64 x).wf = true → U x = some k → ∀ zd, D.atKey (.int .i64 x) zd = .lit (.int .i64 (k : Int))
theorem keyed_int : Keyed Tryz.prog 3 := int_keyed Tryz.underlying3
theorem isKey_int (x : Int) : WideAt.IsKeyLit (.int .i64 x) := by trivial
theorem UsedAt.lt {w : World} {mu n : Nat} {U : Int → Option Nat} (h : UsedAt w mu n U) : mu < w.heap.size := by
  obtain ⟨D, h1, _⟩ := h
  exact h1.lt
theorem UsedAt.grown {w w' : World} {mu n : Nat} {U : Int → Option Nat} {g : Option Nat} (h : UsedAt w mu n U) (hg : w.grownBy w' g) (hne : some mu ≠ g) : UsedAt w' mu n U := by
  obtain ⟨D, h1, h2⟩ := h
  exact ⟨D, h1.kept hg hne, h2⟩
theorem UsedAt.obj {w : World} {mu n : Nat} {U : Int → Option Nat} (h : UsedAt w mu n U) : ∃ es cl, w.heap[mu]? = some (.map es cl) := by
  obtain ⟨D, ⟨es, cl, h1, _⟩, _⟩ := h
  exact ⟨es, cl, h1⟩
theorem has_put {D : DataW Unit} {p : Int} (hD : IsMap D) (d : DataW Unit) (x : Int) : Maps.has (D.put (.int .i64 p) d) (.int .i64 x) = if x = p then true else Maps.has D (.int .i64 x) := by
  by_cases e : x = p
  · subst e
    rw [if_pos rfl]
    exact Maps.has_put_same hD (isKey_int _) d
  · rw [if_neg e]
    exact Maps.has_put_other (fun h => e (by injection h)) d
theorem has_del {D : DataW Unit} {p : Int} (x : Int) : Maps.has (D.del (.int .i64 p)) (.int .i64 x) = if x = p then false else Maps.has D (.int .i64 x) := by
  by_cases e : x = p
  · subst e
    rw [if_pos rfl]
    exact Maps.has_del_same
  · rw [if_neg e]
    exact Maps.has_del_other (fun h => e (by injection h))
theorem UsedAt.put {w w' : World} {mu n m : Nat} {U : Int → Option Nat} {D : DataW Unit} {p : Int} {k : Nat} (h0 : w.ownsMap Tryz.prog 3 (plainElem Tryz.prog 3) mu n D) (h1 : ∀ x, (Lit.int .i64 x).wf = true → Maps.has D (.int .i64 x) = (U x).isSome)
    (h2 : ∀ x k, (Lit.int .i64 x).wf = true → U x = some k → ∀ zd, D.atKey (.int .i64 x) zd = .lit (.int .i64 (k : Int)))
    (h : w'.ownsMap Tryz.prog 3 (plainElem Tryz.prog 3) mu m (D.put (.int .i64 p) (.lit (.int .i64 (k : Int))))) : UsedAt w' mu m (updU U p (some k)) := by
  refine ⟨_, h, fun x hx => ?_, fun x j hx hj zd => ?_⟩
  · rw [has_put h0.isMap]
    unfold updU
    by_cases e : x = p
    · simp [e]
    · simp only [if_neg e]; exact h1 x hx
  · unfold updU at hj
    by_cases e : x = p
    · rw [if_pos e] at hj
      injection hj with hj
      subst e hj
      exact Maps.atKey_put_same h0.isMap (isKey_int _) _ _
    · rw [if_neg e] at hj
      rw [Maps.atKey_put_other (fun hh => e (by injection hh))]
      exact h2 x j hx hj zd
theorem UsedAt.del {w w' : World} {mu n m : Nat} {U : Int → Option Nat} {D : DataW Unit} {p : Int} (h0 : w.ownsMap Tryz.prog 3 (plainElem Tryz.prog 3) mu n D) (h1 : ∀ x, (Lit.int .i64 x).wf = true → Maps.has D (.int .i64 x) = (U x).isSome)
    (h2 : ∀ x k, (Lit.int .i64 x).wf = true → U x = some k → ∀ zd, D.atKey (.int .i64 x) zd = .lit (.int .i64 (k : Int)))
    (h : w'.ownsMap Tryz.prog 3 (plainElem Tryz.prog 3) mu m (D.del (.int .i64 p))) : UsedAt w' mu m (updU U p none) := by
  refine ⟨_, h, fun x hx => ?_, fun x j hx hj zd => ?_⟩
  · rw [has_del]
    unfold updU
    by_cases e : x = p
    · simp [e]
    · simp only [if_neg e]; exact h1 x hx
  · unfold updU at hj
    by_cases e : x = p
    · rw [if_pos e] at hj; cases hj
    · rw [if_neg e] at hj
      rw [Maps.atKey_del_other (fun hh => e (by injection hh))]
      exact h2 x j hx hj zd
theorem UsedAt.made (w : World) : UsedAt (w.alloc (.map #[] 0)) w.heap.size 0 (fun _ => none) :=
  ⟨_, World.ownsMap_made _ _ _ _, fun x _ => rfl, fun x k _ h => by cases h⟩

def bRow (top : Nat) (gm : Nat → Nat) (mu : Nat) : List Value :=
  .int .i64 (top : Int) :: ((List.range 21).map fun k => if k ≤ top then .pointer (some ⟨gm k, 0, none⟩) else .pointer none) ++ [.map (some mu)]
theorem bRow_top (top : Nat) (gm : Nat → Nat) (mu : Nat) : (bRow top gm mu)[0]? = some (.int .i64 (top : Int)) := rfl
theorem bRow_map (top : Nat) (gm : Nat → Nat) (mu : Nat) : (bRow top gm mu)[22]? = some (.map (some mu)) := by
  simp [bRow]
theorem bRow_free (top : Nat) (gm : Nat → Nat) (mu k : Nat) (hk : k < 21) : (bRow top gm mu)[1 + k]? = some (if k ≤ top then .pointer (some ⟨gm k, 0, none⟩) else .pointer none) := by
  unfold bRow
  rw [List.cons_append, show 1 + k = k + 1 by omega, List.getElem?_cons_succ, List.getElem?_append_left (by simpa using hk), List.getElem?_map, List.getElem?_range hk]
  rfl
/-- the type of a row that is held: the reference's, or blocks -/
def tyOf : List Value → TypeId
  | [_, .slice _ _ _, .slice _ _ _] => 138
  | _ => 135
/-- a slice's cells lie in a row that is no map's words -/
def HeldS (w : World) (s : Option Addr × List Value) : Prop := s.2 ≠ [] → ∃ b off cs t, s.1 = some ⟨b, off, none⟩ ∧ w.heap[b]? = some (.cells cs t (0, 0)) ∧ (t ≠ 27 ∧ t = tyOf s.2) ∧ ∀ j u, s.2[j]? = some u → cs[off + j]? = some u
theorem HeldS.kept {w w' : World} {s : Option Addr × List Value} (h : HeldS w s) (hk : ∀ (b : Nat) (cs : Array Value) (t : TypeId), w.heap[b]? = some (.cells cs t (0, 0)) → t ≠ 27 → w'.heap[b]? = some (.cells cs t (0, 0))) : HeldS w' s := fun hne => by
  obtain ⟨b, off, cs, t, h1, h2, h3, h4⟩ := h hne
  exact ⟨b, off, cs, t, h1, hk _ _ _ h2 h3.1, h3, h4⟩
theorem HeldS.nil (w : World) (A : Option Addr) : HeldS w (A, []) := fun h => absurd rfl h
/-- every block of V but those of the maps' words and of the used map stands in w as it stood -/
structure Stay (V w : World) (top : Nat) (gw : Nat → Nat) (mu : Nat) : Prop where
  size : V.heap.size ≤ w.heap.size
  block : ∀ g, g < V.heap.size → (∀ k, k ≤ top → g ≠ gw k) → g ≠ mu → w.heap[g]? = V.heap[g]?
theorem Stay.refl (w : World) (top : Nat) (gw : Nat → Nat) (mu : Nat) : Stay w w top gw mu := ⟨Nat.le_refl _, fun _ _ _ _ => rfl⟩
theorem Stay.trans {a b c : World} {top : Nat} {gw : Nat → Nat} {mu : Nat} (h1 : Stay a b top gw mu) (h2 : Stay b c top gw mu) : Stay a c top gw mu :=
  ⟨Nat.le_trans h1.size h2.size, fun g hg h3 h4 => (h2.block g (Nat.lt_of_lt_of_le hg h1.size) h3 h4).trans (h1.block g hg h3 h4)⟩
theorem Stay.of_below {V w : World} {top : Nat} {gw : Nat → Nat} {mu : Nat} (h : Below V.heap.size V w) : Stay V w top gw mu := ⟨h.size, fun g hg _ _ => h.block g hg⟩
/-- the allocator's state -/
structure BSt (V W : World) (S : List (Option Addr × List Value)) (w : World) (b top : Nat) (gm gw : Nat → Nat) (mu n : Nat) (F : Nat → Nat → Bool) (U : Int → Option Nat) : Prop where
  way : Below W.heap.size W w
  stay : Stay V w top gw mu
  tle : top ≤ 20
  row : w.heap[b]? = some (.cells (bRow top gm mu).toArray 128 (0, 0))
  maps : ∀ k, k ≤ top → ∃ ws, MapAt w (gm k) (gw k) (2 ^ (top - k)) ws ∧ ∀ i, i < 2 ^ (top - k) → bitW ws i = F k i
  wnew : ∀ k, k ≤ top → W.heap.size ≤ gw k
  inj : ∀ k j, k ≤ top → j ≤ top → gw k = gw j → k = j
  used : UsedAt w mu n U
  unew : W.heap.size ≤ mu
  held : ∀ s ∈ S, HeldS w s
theorem pop_zero {x : Nat} (h : pop x = 0) {b : Nat} (hb : b < 64) : x.testBit b = false := by
  have := List.countP_eq_zero.1 h b (List.mem_range.2 hb)
  simpa using this
theorem popL_zero : ∀ {ws : List Nat}, popL ws = 0 → ∀ i, bitW ws i = false
  | ws, h, i => by
    unfold bitW
    by_cases hi : i / 64 < ws.length
    · have hm : ws.getD (i / 64) 0 ∈ ws := by
        rw [List.getD_eq_getElem?_getD, List.getElem?_eq_getElem hi]
        exact List.getElem_mem hi
      refine pop_zero ?_ (Nat.mod_lt _ (by omega))
      unfold popL at h
      have := List.sum_eq_zero_iff_forall_eq_nat.1 h (pop (ws.getD (i / 64) 0)) (List.mem_map_of_mem hm)
      exact this
    · rw [List.getD_eq_getElem?_getD, List.getElem?_eq_none (by omega)]
      simp
theorem popL_pos {n : Nat} {ws : List Nat} (h : WF n ws) : 0 < popL ws ↔ ∃ i, i < n ∧ bitW ws i = true := by
  constructor
  · intro h0
    by_cases q : ∃ i, i < n ∧ bitW ws i = true
    · exact q
    · exfalso
      have e : ws = List.replicate ((n + 63) / 64) 0 := same_words h (WF_new n) fun i hi => by
        rw [bitW_new]
        exact Bool.eq_false_iff.2 fun hc => q ⟨i, hi, hc⟩
      rw [e, popL_new] at h0
      omega
  · rintro ⟨i, hi, hb⟩
    by_cases q : popL ws = 0
    · rw [popL_zero q i] at hb; cases hb
    · omega
theorem blt {w : World} {g : Nat} {o : Obj} (h : w.heap[g]? = some o) : g < w.heap.size := by
  rcases Nat.lt_or_ge g w.heap.size with h1 | h1
  · exact h1
  · rw [Array.getElem?_eq_none h1] at h; cases h
theorem cell_of_row (w : World) (g i : Nat) (t : TypeId) (xs : Array Value) (o : Nat × Nat) (h : w.heap[g]? = some (.cells xs t o)) : w.cell? ⟨g, i, none⟩ = xs[i]? := by
  simp [World.cell?, h]
theorem HeldS.sl {w : World} {A : Option Addr} {xs : List Value} (h : HeldS w (A, xs)) : SlR w A xs := fun hne => by
  obtain ⟨b, off, cs, t, h1, h2, h3, h4⟩ := h hne
  exact ⟨b, off, h1, blt h2, fun j u hu => (cell_of_row _ _ _ _ _ _ h2).trans (h4 j u hu)⟩
section
variable {V W w w' : World} {S : List (Option Addr × List Value)} {b top : Nat} {gm gw : Nat → Nat} {mu n : Nat} {F : Nat → Nat → Bool} {U : Int → Option Nat}
theorem BSt.below (h : BSt V W S w b top gm gw mu n F U) (hb : Below w.heap.size w w') : BSt V W S w' b top gm gw mu n F U :=
  ⟨h.way.trans (hb.mono h.way.size), h.stay.trans (.of_below hb), h.tle, (hb.block b (blt h.row)).trans h.row, fun k hk => by
    obtain ⟨ws, h1, h2⟩ := h.maps k hk
    exact ⟨ws, h1.below hb, h2⟩, h.wnew, h.inj, by
    obtain ⟨D, ⟨es, cl, h1, h2⟩, h3⟩ := h.used
    exact ⟨D, ⟨es, cl, (hb.block mu (blt h1)).trans h1, h2⟩, h3⟩, h.unew, fun s hs => (h.held s hs).kept fun b cs t hh _ => (hb.block b (blt hh)).trans hh⟩
theorem BSt.drew (h : BSt V W S w b top gm gw mu n F U) : BSt V W S w.drew b top gm gw mu n F U := h.below (Below.refl _ _).drew
theorem BSt.alloc (h : BSt V W S w b top gm gw mu n F U) (o : Obj) : BSt V W S (w.alloc o) b top gm gw mu n F U := h.below ((Below.refl _ _).alloc (Nat.le_refl _) _)
theorem BSt.cell (h : BSt V W S w b top gm gw mu n F U) (i : Nat) : w.cell? ⟨b, i, none⟩ = (bRow top gm mu)[i]? := by
  rw [cell_of_row _ _ _ _ _ _ h.row]; simp
theorem BSt.c0 (h : BSt V W S w b top gm gw mu n F U) : w.cell? ⟨b, 0, none⟩ = some (.int .i64 (top : Int)) := h.cell 0
theorem BSt.c22 (h : BSt V W S w b top gm gw mu n F U) : w.cell? ⟨b, 22, none⟩ = some (.map (some mu)) := by rw [h.cell, bRow_map]
theorem BSt.ck (h : BSt V W S w b top gm gw mu n F U) (k : Nat) (hk : k ≤ top) : w.cell? ⟨b, 1 + k, none⟩ = some (.pointer (some ⟨gm k, 0, none⟩)) := by
  have := h.tle
  rw [h.cell, bRow_free _ _ _ _ (by omega), if_pos hk]
theorem BSt.ck_none (h : BSt V W S w b top gm gw mu n F U) (k : Nat) (hk : top < k) (h20 : k ≤ 20) : w.cell? ⟨b, 1 + k, none⟩ = some (.pointer none) := by
  rw [h.cell, bRow_free _ _ _ _ (by omega), if_neg (by omega)]
/-- the used map turns -/
theorem BSt.turn {m : Nat} {U' : Int → Option Nat} (h : BSt V W S w b top gm gw mu n F U) (ht : w.mapTurned w' mu) (hu : UsedAt w' mu m U') : BSt V W S w' b top gm gw mu m F U' := by
  have hg := ht.grown
  obtain ⟨es, cl, ho⟩ := h.used.obj
  have hne : ∀ (g : Nat) (xs : Array Value) (t : TypeId), w.heap[g]? = some (.cells xs t (0, 0)) → some g ≠ some mu := fun g xs t hh e => by
    injection e with e
    subst e
    rw [ho] at hh
    injection hh with hh
    cases hh
  refine ⟨h.way.trans (grownBy_below hg h.unew h.way.size), h.stay.trans ⟨hg.size, fun g h1 _ h2 => hg.block g h1 (fun e => h2 (by injection e))⟩, h.tle, (hg.block b (blt h.row) (hne _ _ _ h.row)).trans h.row, fun k hk => ?_, h.wnew, h.inj, hu, h.unew, fun s hs => (h.held s hs).kept fun b cs t hh _ => (hg.block b (blt hh) (hne _ _ _ hh)).trans hh⟩
  obtain ⟨ws, h1, h2⟩ := h.maps k hk
  exact ⟨ws, ⟨(hg.block _ h1.lt.1 (hne _ _ _ h1.1)).trans h1.1, (hg.block _ h1.lt.2 (hne _ _ _ h1.2.1)).trans h1.2.1, h1.2.2⟩, h2⟩
/-- a map of bits turns -/
theorem BSt.set {F' : Nat → Nat → Bool} {k : Nat} {ws : List Nat} (h : BSt V W S w b top gm gw mu n F U) (hk : k ≤ top) (hg : w.grownBy w' (some (gw k))) (hm : MapAt w' (gm k) (gw k) (2 ^ (top - k)) ws)
    (hw : ∀ i, i < 2 ^ (top - k) → bitW ws i = F' k i) (hF : ∀ j i, j ≠ k → F' j i = F j i) : BSt V W S w' b top gm gw mu n F' U := by
  obtain ⟨ws0, m0, _⟩ := h.maps k hk
  have hne : ∀ (g : Nat) (xs : Array Value) (t : TypeId), w.heap[g]? = some (.cells xs t (0, 0)) → t ≠ 27 → some g ≠ some (gw k) := fun g xs t hh ht e => by
    injection e with e
    subst e
    rw [m0.2.1] at hh
    injection hh with hh
    injection hh with _ h2
    exact ht h2.symm
  refine ⟨h.way.trans (grownBy_below hg (h.wnew k hk) h.way.size), h.stay.trans ⟨hg.size, fun g h1 h2 _ => hg.block g h1 (fun e => h2 k hk (by injection e))⟩, h.tle, (hg.block b (blt h.row) (hne _ _ _ h.row (by decide))).trans h.row, fun j hj => ?_, h.wnew, h.inj, h.used.grown hg (fun e => ?_), h.unew, fun s hs => (h.held s hs).kept fun b cs t hh ht => (hg.block b (blt hh) (hne _ _ _ hh ht)).trans hh⟩
  · by_cases e : j = k
    · subst e
      exact ⟨ws, hm, hw⟩
    · obtain ⟨vs, h1, h2⟩ := h.maps j hj
      refine ⟨vs, ⟨(hg.block _ h1.lt.1 (hne _ _ _ h1.1 (by decide))).trans h1.1, (hg.block _ h1.lt.2 (fun e2 => e (h.inj j k hj hk (by injection e2)))).trans h1.2.1, h1.2.2⟩, fun i hi => ?_⟩
      rw [hF j i e]
      exact h2 i hi
  · injection e with e
    obtain ⟨es, cl, ho⟩ := h.used.obj
    rw [e, m0.2.1] at ho
    injection ho with ho
    cases ho
theorem BSt.hold {s : Option Addr × List Value} (h : BSt V W S w b top gm gw mu n F U) (hs : HeldS w s) : BSt V W (s :: S) w b top gm gw mu n F U :=
  ⟨h.way, h.stay, h.tle, h.row, h.maps, h.wnew, h.inj, h.used, h.unew, fun x hx => by
    rcases List.mem_cons.1 hx with rfl | hx
    · exact hs
    · exact h.held x hx⟩
theorem BSt.sub {S' : List (Option Addr × List Value)} (h : BSt V W S w b top gm gw mu n F U) (hs : ∀ s ∈ S', s ∈ S) : BSt V W S' w b top gm gw mu n F U :=
  ⟨h.way, h.stay, h.tle, h.row, h.maps, h.wnew, h.inj, h.used, h.unew, fun x hx => h.held x (hs x hx)⟩
/-- the contract of Set, of one bit -/
theorem set_g (ha : BSt V W S w b top gm gw mu n F U) (k : Nat) (hk : k ≤ top) (on : Bool) (i : Nat) (A : Option Addr) (cap : Nat) (hA : SlR w A [.int .i64 (i : Int)]) (hAw : ∀ a, A = some a → a.block ≠ gw k) (hi : i < 2 ^ (top - k)) (c : Int) (hc : c = if F k i = on then 0 else 1) (F' : Nat → Nat → Bool) (hF : F' = setF F k i on) :
    Calls Tryz.prog 37 #[.pointer (some ⟨gm k, 0, none⟩), .bool on, .slice A 1 cap] w fun e w' => e = .returned (.int .i64 c) ∧ BSt V W S w' b top gm gw mu n F' U := by
  subst hc hF
  obtain ⟨ws, m1, m2⟩ := ha.maps k hk
  have e0 : cntL on (2 ^ (top - k)) ws [(i : Int)] = if F k i = on then 0 else 1 := by
    have := cntL_snoc on (2 ^ (top - k)) (i : Int) [] ws
    simp only [List.nil_append] at this
    rw [this]
    simp only [cntL, setL, turns, Int.toNat_natCast, m2 i hi, Nat.zero_add]
    have : decide (0 ≤ (i : Int) ∧ (i : Int) < ((2 ^ (top - k) : Nat) : Int)) = true := decide_eq_true ⟨by omega, by exact_mod_cast hi⟩
    rw [this]
    cases F k i <;> cases on <;> rfl
  refine (set_lit on [(i : Int)] 1 rfl A cap _ (gm k) (gw k) _ ws _ ((if F k i = on then 0 else 1 : Nat) : Int) rfl (by rw [e0]) m1 hA (fun _ a ea => hAw a ea) (by omega)).mono ?_
  rintro e w' ⟨rfl, hm, hg⟩
  refine ⟨by split <;> rfl, ha.set hk hg hm (fun j hj => ?_) (fun j x hj => by simp [setF, hj])⟩
  rw [bitW_setL j _ m1.2.2.1]
  simp only [List.mem_singleton, setF, true_and]
  by_cases e : j = i
  · subst e; simp [hj]
  · rw [if_neg (fun q => e (by omega)), if_neg e]; exact m2 j hj
theorem set_b (h : BSt V W S w b top gm gw mu n F U) (k : Nat) (hk : k ≤ top) (on : Bool) (i : Nat) (I : Int) (hI : I = (i : Int)) (hi : i < 2 ^ (top - k)) (c : Int) (hc : c = if F k i = on then 0 else 1) (F' : Nat → Nat → Bool) (hF : F' = setF F k i on) :
    Calls Tryz.prog 37 #[.pointer (some ⟨gm k, 0, none⟩), .bool on, .slice (some ⟨w.heap.size, 0, none⟩) 1 1] (w.alloc (.cells #[.int .i64 I] 3)) fun e w' => e = .returned (.int .i64 c) ∧ BSt V W S w' b top gm gw mu n F' U := by
  subst hI
  obtain ⟨ws0, m0, _⟩ := h.maps k hk
  exact set_g (h.alloc _) k hk on i _ 1 (SlR_new w _ _) (fun a ea => by cases ea; have := m0.lt.2; simp only; omega) hi c hc F' hF
theorem set_bd (h : BSt V W S w b top gm gw mu n F U) (k : Nat) (hk : k ≤ top) (on : Bool) (i : Nat) (I : Int) (hI : I = (i : Int)) (hi : i < 2 ^ (top - k)) (c : Int) (hc : c = if F k i = on then 0 else 1) (F' : Nat → Nat → Bool) (hF : F' = setF F k i on) :
    Calls Tryz.prog 37 #[.pointer (some ⟨gm k, 0, none⟩), .bool on, .slice (some ⟨w.heap.size, 0, none⟩) 1 1] (w.alloc (.cells #[.int .i64 I] 3)).drew fun e w' => e = .returned (.int .i64 c) ∧ BSt V W S w' b top gm gw mu n F' U := by
  subst hI
  obtain ⟨ws0, m0, _⟩ := h.maps k hk
  exact set_g (h.alloc _).drew k hk on i _ 1 ((SlR_new w _ _).below (Below.refl _ _).drew) (fun a ea => by cases ea; have := m0.lt.2; simp only; omega) hi c hc F' hF
/-- the first block of an order from one on -/
def FirstF (F : Nat → Nat → Bool) (k m f : Nat) (r : Int) : Prop := (r = -1 ∧ ∀ i, f ≤ i → i < m → F k i = false) ∨ ∃ i : Nat, r = (i : Int) ∧ f ≤ i ∧ i < m ∧ F k i = true ∧ ∀ j, f ≤ j → j < i → F k j = false
theorem first_b (h : BSt V W S w b top gm gw mu n F U) (hT : TabZ w) (k : Nat) (hk : k ≤ top) (f : Nat) (I : Int) (hI : I = (f : Int)) (hf : f ≤ 2000000000) :
    Calls Tryz.prog 69 #[.pointer (some ⟨gm k, 0, none⟩), .bool true, .int .i64 I] w fun e w' => ∃ r, e = .returned (.int .i64 r) ∧ FirstF F k (2 ^ (top - k)) f r ∧ w' = w := by
  subst hI
  obtain ⟨ws, m1, m2⟩ := h.maps k hk
  refine (first_any true w (gm k) (gw k) _ ws f hf m1 hT).mono ?_
  rintro e w' ⟨r, he, hs, hw⟩
  refine ⟨r, he, ?_, hw⟩
  rcases hs with ⟨rfl, hs⟩ | ⟨i, rfl, h1, h2, h3, h4⟩
  · exact .inl ⟨rfl, fun i hi1 hi2 => by rw [← m2 i hi2]; exact Bool.eq_false_iff.2 (hs i hi1 hi2)⟩
  · exact .inr ⟨i, rfl, h1, h2, by rw [← m2 i h2]; exact h3, fun j j1 j2 => by rw [← m2 j (by omega)]; exact Bool.eq_false_iff.2 (h4 j j1 j2)⟩
theorem count_b (h : BSt V W S w b top gm gw mu n F U) (k : Nat) (hk : k ≤ top) :
    Calls Tryz.prog 38 #[.pointer (some ⟨gm k, 0, none⟩)] w fun e w' => ∃ c : Nat, e = .returned (.int .i64 (c : Int)) ∧ (0 < c ↔ ∃ i, i < 2 ^ (top - k) ∧ F k i = true) ∧ w' = w := by
  obtain ⟨ws, m1, m2⟩ := h.maps k hk
  refine (count_any w (gm k) (gw k) _ ws m1).mono ?_
  rintro e w' ⟨he, hw⟩
  refine ⟨_, he, ?_, hw⟩
  rw [popL_pos m1.2.2.1]
  constructor
  · rintro ⟨i, hi, hb⟩; exact ⟨i, hi, by rw [← m2 i hi]; exact hb⟩
  · rintro ⟨i, hi, hb⟩; exact ⟨i, hi, by rw [m2 i hi]; exact hb⟩
end
end Go.Proofs.YtflkoabgkgegjaaGreatDoor
/- The contracts of Greatest, Order, Take, Give. Condition: the allocator's state is held. -/
namespace Go.Proofs.YtflkoabgkgegjaaGreatDoor
open Go.RowKit Go.Maps
variable {V W w : World} {S : List (Option Addr × List Value)} {b top : Nat} {gm gw : Nat → Nat} {mu n : Nat} {F : Nat → Nat → Bool} {U : Int → Option Nat}
theorem zeroI (w : World) : (zeroValue 3).run Tryz.prog w = .ok (.int .i64 0) w := by kernel_rfl

theorem run_shl (x : Nat) (o : Nat) (X O Z : Int) (hX : X = (x : Int)) (hO : O = (o : Int)) (hZ : Z = ((x * 2 ^ o : Nat) : Int)) (hb : x * 2 ^ o < 4611686018427387904) (ho : o < 64) (w : World) : (Op.shift .shl .i64 X .i64 O).run Tryz.prog w = .ok (.int .i64 Z) w := by
  subst hX hO hZ
  have e : min ((o : Int).toNat) (IntKind.i64.bits) = o := by
    show min ((o : Int).toNat) 64 = o
    omega
  have e2 : IntKind.i64.wrap ((x : Int) * 2 ^ o) = ((x * 2 ^ o : Nat) : Int) := by
    rw [IntKind.wrap_i64]
    have : ((x : Int) * 2 ^ o) = ((x * 2 ^ o : Nat) : Int) := by push_cast; rfl
    rw [this]
    omega
  unfold Op.shift
  rw [if_neg (by omega)]
  simp only [e, e2]
  rfl
def topF (F : Nat → Nat → Bool) (top : Nat) (r : Int) : Prop := (r = -1 ∧ ∀ j i, j ≤ top → i < 2 ^ (top - j) → F j i = false) ∨ ∃ k : Nat, r = (k : Int) ∧ k ≤ top ∧ (∃ i, i < 2 ^ (top - k) ∧ F k i = true) ∧ ∀ j i, k < j → j ≤ top → i < 2 ^ (top - j) → F j i = false
set_option maxRecDepth 100000 in
theorem count_nil (w : World) : Calls Tryz.prog 38 #[.pointer none] w fun e w' => e = .returned (.int .i64 0) ∧ w' = w := by
  go_enter Tryz.func38, Tryz.ntmps38
  go_wp2
  refine wp_loop_rounds 1 ?_
  rw [rounds_succ]
  go_wp2
  go_ret
  exact ⟨rfl, rfl⟩
end Go.Proofs.YtflkoabgkgegjaaGreatDoor
