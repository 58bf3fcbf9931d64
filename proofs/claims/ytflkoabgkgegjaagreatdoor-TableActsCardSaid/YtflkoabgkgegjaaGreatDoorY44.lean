/- What the arguments are in memory: acts, numbers; the tables that the row lays. No condition. -/
import Derived.Test.YtflkoabgkgegjaaGreatDoorY43
import Derived.Test.YtflkoabgkgegjaaGreatDoorRows
import Derived.Test.YtflkoabgkgegjaaGreatDoorCards
import Derived.Test.YtflkoabgkgegjaaGreatDoorTie
import Derived.Deep.Slices
import Derived.Deep.Fields
import Derived.Deep.DeepHandedRow
import Derived.ProofKit
import Derived.ChangeSame
import Derived.Lib.LaidTab
import Derived.OpenShut
/- What the arguments are in memory: acts, numbers; the tables that the row lays. No condition. -/
namespace Go.Proofs.YtflkoabgkgegjaaGreatDoor
open Go.ChangeShapes Go.WideShapes Go.ChangeAt Go.RowKit Go.Deep

theorem addr_of_cell {w : World} {a : Addr} {v : Value} (h : w.cell? a = some v) : a = ⟨a.block, a.off, none⟩ ∧ a.block < w.heap.size := by
  refine ⟨?_, World.block_lt_of_cell? w a h⟩
  obtain ⟨b, o, s⟩ := a
  cases s with
  | none => rfl
  | some x =>
    simp only [World.cell?] at h
    split at h <;> simp at h

theorem add_off (b off i : Nat) : (⟨b, off, none⟩ : Addr).add i = ⟨b, off + i, none⟩ := by unfold Addr.add; split <;> simp_all

theorem gTab : Tryz.prog.globalNamed "math/bits.deBruijn64tab" = some 2 := by kernel_rfl
theorem gTabType : (Tryz.prog.globals[2]?).map (·.type) = some 162 := by kernel_rfl
def costTab : List Nat := [0, 64, 128, 256, 32, 32, 48, 256]
theorem gCost : Tryz.prog.globalNamed "quartermaster/pool.costs" = some 0 := by kernel_rfl
theorem gCostType : (Tryz.prog.globals[0]?).map (·.type) = some 89 := by kernel_rfl
theorem tabz_of_laid {W : World} (h : laidMetH Tryz.prog Rows.tableActsRow.laid W) : TabZ W := by
  obtain ⟨ps, ⟨_, _, _, _, _, _, _, _, _, _, ⟨g', t', cs, fuel, p, q, hg', ht', hvar, hd, _, _⟩, _⟩, _⟩ := (h : laidMet _ _ _)
  obtain rfl := Option.some.inj (gTab.symm.trans hg')
  obtain rfl := Option.some.inj (gTabType.symm.trans ht')
  obtain ⟨xs, m, rfl, hx, hlen, hn, hel⟩ := DataW.trod_array Tryz.underlying162 hd
  have c1 : Tryz.prog.cellsOf 5 = 1 := by kernel_rfl
  have hl : ∃ l, (Rows.laid_math_bits_deBruijn64tab : DataW Unit) = .agg l ∧ l = Lib.deBruijn64tab.map fun (t : Nat) => .lit (.int .u8 (t : Int)) := ⟨_, rfl, rfl⟩
  obtain ⟨l, hl1, hl2⟩ := hl
  simp only [Prod.mk.injEq] at hx
  rw [hl1] at hx
  have hmap : l = xs.map (·.1) := by
    have := hx.1
    injection this
  intro k hk
  have hxk : xs[k]? = some xs[k] := List.getElem?_eq_getElem (by omega)
  have h := (hel k hk).trans hxk
  obtain ⟨a, hc, hd2, _⟩ := DataW.trod_int Tryz.underlying5 h
  rw [c1] at hc
  have hak : Lib.deBruijn64tab[k]? = some (Lib.deBruijn64tab.getD k 0) := by
    have : k < Lib.deBruijn64tab.length := hk
    simp [List.getD, List.getElem?_eq_getElem this]
  have hrow : (xs.map (·.1))[k]? = some (.lit (.int .u8 ((Lib.deBruijn64tab.getD k 0 : Nat) : Int))) := by
    rw [← hmap, hl2, List.getElem?_map, hak]; rfl
  rw [List.getElem?_map, hxk] at hrow
  simp only [Option.map_some, Option.some.injEq] at hrow
  rw [hd2] at hrow
  simp only [DataW.lit.injEq, Lit.int.injEq, true_and] at hrow
  rw [← hrow]
  have cell : ∀ j u, ([.int .u8 a] : List Value)[j]? = some u → W.cell? ⟨2, k * 1 + j, none⟩ = some u := by
    intro j u hu
    rw [World.var?_cell gTab hvar, ← hc] at *
    rw [List.getElem?_take] at hu
    split at hu
    · rw [List.getElem?_drop] at hu
      simpa using hu
    · cases hu
  have := cell 0 _ rfl
  simpa using this

theorem tabc_of_laid {W : World} (h : laidMetH Tryz.prog Rows.tableActsRow.laid W) : TabC W := by
  obtain ⟨ps, ⟨_, _, _, _, _, _, _, _, _, _, ⟨_, _, _, _, _, _, _, _, _, _, ⟨g', t', cs, fuel, p, q, hg', ht', hvar, hd, _, _⟩, _⟩, _⟩, _⟩ := (h : laidMet _ _ _)
  obtain rfl := Option.some.inj (gCost.symm.trans hg')
  obtain rfl := Option.some.inj (gCostType.symm.trans ht')
  obtain ⟨xs, m, rfl, hx, hlen, hn, hel⟩ := DataW.trod_array Tryz.underlying89 hd
  have c1 : Tryz.prog.cellsOf 3 = 1 := by kernel_rfl
  have hl : ∃ l, (Rows.laid_quartermaster_pool_costs : DataW Unit) = .agg l ∧ l = costTab.map fun (t : Nat) => .lit (.int .i64 (t : Int)) := ⟨_, rfl, rfl⟩
  obtain ⟨l, hl1, hl2⟩ := hl
  simp only [Prod.mk.injEq] at hx
  rw [hl1] at hx
  have hmap : l = xs.map (·.1) := by
    have := hx.1
    injection this
  intro k hk
  have hxk : xs[k]? = some xs[k] := List.getElem?_eq_getElem (by omega)
  have h := (hel k hk).trans hxk
  obtain ⟨a, hc, hd2, _⟩ := DataW.trod_int Tryz.underlying3 h
  rw [c1] at hc
  have hak : costTab[k]? = some (costTab.getD k 0) := by
    have : k < costTab.length := hk
    simp [List.getD, List.getElem?_eq_getElem this]
  have hrow : (xs.map (·.1))[k]? = some (.lit (.int .i64 ((costTab.getD k 0 : Nat) : Int))) := by
    rw [← hmap, hl2, List.getElem?_map, hak]; rfl
  rw [List.getElem?_map, hxk] at hrow
  simp only [Option.map_some, Option.some.injEq] at hrow
  rw [hd2] at hrow
  simp only [DataW.lit.injEq, Lit.int.injEq, true_and] at hrow
  show W.cell? _ = some (.int .i64 ((costTab.getD k 0 : Nat) : Int))
  rw [← hrow]
  have cell : ∀ j u, ([.int .i64 a] : List Value)[j]? = some u → W.cell? ⟨0, k * 1 + j, none⟩ = some u := by
    intro j u hu
    rw [World.var?_cell gCost hvar, ← hc] at *
    rw [List.getElem?_take] at hu
    split at hu
    · rw [List.getElem?_drop] at hu
      simpa using hu
    · cases hu
  have := cell 0 _ rfl
  simpa using this

section
variable {H : Type} {enc : TypeId × Value → H} {P : Program}

theorem trodAll_below (hl : laidOutB P = true) {W W' : World} (hb : Below W.heap.size W W') {sp : Nat → Bool} : ∀ {ts : List TypeId} {vs : List Value} {ds : List (DataW H)} {ps : List MemPlace},
    (∀ t ∈ ts, P.readableRec t = true ∧ t < P.types.size) → DataW.TrodAll enc P W 0 (fun _ => true) true ts vs ds ps → (∀ x ∈ ps, x.block < W.heap.size) → (∀ x ∈ ps, sp x.block = true) → DataW.TrodAll enc P W' 0 sp true ts vs ds ps
  | [], _, _, _, _, h, _, _ => by
    obtain ⟨rfl, rfl, rfl⟩ := trodAll_nil h
    exact trodAll_mk0
  | t :: ts, _, _, _, ht, h, hlt, hsp => by
    obtain ⟨v0, vs0, d0, ds0, p0, q0, rfl, rfl, rfl, h0, r0⟩ := trodAll_cons h
    refine trodAll_cons_mk (WideElems.Trod_stays hl (ht t (by simp)).1 (ht t (by simp)).2 h0 (fun x hx => hb.same (hlt x (by simp [hx]))) (fun x hx => hsp x (by simp [hx])))
      (trodAll_below hl hb (fun u hu => ht u (by simp [hu])) r0 (fun x hx => hlt x (by simp [hx])) (fun x hx => hsp x (by simp [hx])))

theorem post_true {f : Func} {s : ChangeSpec} {apart fresh handsOn again : Bool} {W W' : World} {args : Array Value} {ds gs : List (DataW H)} {before : List MemPlace} {tb : TypeId}
    (hl : laidOutB P = true) (hp : ∀ t ∈ f.params.toList, P.readableRec t = true ∧ t < P.types.size) (hrt : f.resultTypes = #[tb]) (htb : P.underlying tb = some .bool) (hsv : s.vars = [])
    (hW : DataW.Whole enc P f.params.toList s.vars apart W args.toList ds gs before) (hs : ∀ ds', gs = [] → ds' = ds ++ gs → s.fn H ds' = { results := [.lit (.bool true)], args := ds }) (hb : Below W.heap.size W W') :
    s.post enc P f apart fresh handsOn again W args (.bool true) W' := by
  have hWt := hW.lt
  have hW' := hW
  obtain ⟨p, q, hA, hV, rfl, hz, hn⟩ := hW
  rw [hsv] at hV
  obtain ⟨rfl, rfl⟩ := trodVars_none hV
  have hs := hs _ rfl rfl
  have hltp : ∀ x ∈ p, x.block < W.heap.size := fun x hx => hWt x (by simp [hx])
  have hargs : ∀ sp : Nat → Bool, (∀ x ∈ p, sp x.block = true) → DataW.TrodAll enc P W' 0 sp true f.params.toList args.toList (s.fn H (ds ++ [])).args p := fun sp hsp => by
    rw [hs]; exact trodAll_below hl hb hp hA hltp hsp
  have hres : ∀ (b : Nat) (sp : Nat → Bool) (hd : Bool), DataW.TrodAll enc P W' b sp hd f.resultTypes.toList ((Value.bool true).resultList f.resultTypes.size) (s.fn H (ds ++ [])).results [] := fun b sp hd => by
    rw [hs, hrt]
    exact trodAll_cons_mk (shut_bool htb _) trodAll_mk0
  have hvars : ∀ sp : Nat → Bool, DataW.TrodVars enc P W' sp s.vars (s.fn H (ds ++ [])).vars [] := fun sp => by
    rw [hs, hsv]; rfl
  have hold : ∀ x ∈ p, (fun b => decide (b < W.heap.size)) x.block = true := fun x hx => by simpa using hltp x hx
  refine ⟨ds, [], p ++ [], [], p, [], hW', hres _ _ _, hargs _ hold, hvars _, World.keptBut_mono (fun x hx => ⟨hx, ?_⟩) (hb.frame (· ∈ p ++ [])), fun _ => ?_⟩
  · right; simpa using hx
  · refine ⟨ok_one hrt rfl (okWide_bool_mk htb _), _, _, ([] ++ p) ++ [], ⟨[] ++ p, [], trodAll_append (hargs _ (fun _ _ => rfl)) (hres _ _ _), hvars _, rfl, ?_, ?_⟩, ?_⟩
    · intro b off hx
      refine (hb.frozen ?_).trans (hz b off (by simpa using hx))
      exact hltp _ (by simpa using hx)
    · intro ha
      simpa using hn ha
    · intro x hx _
      simpa using hx
end
section
variable {H : Type} {enc : TypeId × Value → H} {w : World} {base : Nat} {spare : Nat → Bool} {held : Bool}
/- an act, as four cells read -/
set_option maxRecDepth 100000 in
theorem open_act {fuel : Nat} {cs : List Value} {x : DataW H × List MemPlace} (h : DataW.trod enc Tryz.prog w base spare held fuel 50 cs = some x) :
    ∃ (f g : Int) (a b : Nat), cs = [.int .i64 f, .int .i64 g, .int .u64 (a : Int), .int .u64 (b : Int)] ∧ (Lit.int .i64 g).wf = true ∧ a < 18446744073709551616 ∧ b < 18446744073709551616 := by
  obtain ⟨xs, n, _, _, hc, hlen, hf⟩ := DataW.trod_struct Tryz.underlying50 h
  have hsz : cs.length = 4 := hc.trans (by kernel_rfl)
  match cs, hsz with
  | [v0, v1, v2, v3], _ =>
    have hx : xs.length = 4 := hlen
    match xs, hx with
    | [y0, y1, y2, y3], _ =>
      have c3 : Tryz.prog.cellsOf 3 = 1 := by kernel_rfl
      have c4 : Tryz.prog.cellsOf 27 = 1 := by kernel_rfl
      have h0 := hf 0 _ rfl
      have h1 := hf 1 _ rfl
      have h2 := hf 2 _ rfl
      have h3 := hf 3 _ rfl
      simp [c3, c4] at h0 h1 h2 h3
      obtain ⟨f, e0, _, _⟩ := DataW.trod_int Tryz.underlying3 (h0.trans rfl)
      obtain ⟨g, e1, _, hw⟩ := DataW.trod_int Tryz.underlying3 (h1.trans rfl)
      obtain ⟨a, e2, _, ha⟩ := DataW.trod_int Tryz.underlying27 (h2.trans rfl)
      obtain ⟨b, e3, _, hb⟩ := DataW.trod_int Tryz.underlying27 (h3.trans rfl)
      simp at e0 e1 e2 e3
      simp [Lit.wf, IntKind.min, IntKind.max, IntKind.signed, IntKind.bits] at ha hb
      obtain ⟨a, rfl⟩ := Int.eq_ofNat_of_zero_le (show 0 ≤ a by omega)
      obtain ⟨b, rfl⟩ := Int.eq_ofNat_of_zero_le (show 0 ≤ b by omega)
      exact ⟨f, g, a, b, by simp [e0, e1, e2, e3], hw, by omega, by omega⟩
/- a slice of acts -/
set_option maxRecDepth 100000 in
theorem open_acts {fuel : Nat} {v : Value} {x : DataW H × List MemPlace} (h : DataW.trod enc Tryz.prog w base spare held fuel 23 [v] = some x) :
    ∃ (l : List Ac) (A : Option Addr) (cap : Nat), v = .slice A l.length cap ∧ SlR w A (acCells l) ∧ ∀ x ∈ l, (Lit.int .i64 x.slot).wf = true ∧ x.a < 18446744073709551616 ∧ x.b < 18446744073709551616 := by
  rcases open_slice Tryz.underlying23 h with ⟨hcs, _⟩ | ⟨a, len, cap, m, n, D, Pl, hcs, _, hl, hm, hmm, _, hi⟩
  · injection hcs with hv
    exact ⟨[], none, 0, hv, SlR.nil _ _, fun x hx => absurd hx List.not_mem_nil⟩
  · injection hcs with hv
    have hlm : len ≤ m := by rw [hmm]; split <;> omega
    have c4 : Tryz.prog.cellsOf 50 = 4 := by kernel_rfl
    have each : ∀ i, i < len → ∃ (y : Ac), w.cell? (a.add (i * 4)) = some (.int .i64 y.kind) ∧ w.cell? (a.add (i * 4 + 1)) = some (.int .i64 y.slot) ∧ w.cell? (a.add (i * 4 + 2)) = some (.int .u64 (y.a : Int)) ∧ w.cell? (a.add (i * 4 + 3)) = some (.int .u64 (y.b : Int)) ∧ (Lit.int .i64 y.slot).wf = true ∧ y.a < 18446744073709551616 ∧ y.b < 18446744073709551616 := by
      intro i hil
      obtain ⟨cs', hc, ht⟩ := hi i (by omega)
      rw [c4] at hc
      obtain ⟨f, g, ya, yb, rfl, hw, ha, hb⟩ := open_act ht
      obtain ⟨_, _, hat⟩ := World.cells?_some hc
      refine ⟨⟨f, g, ya, yb⟩, ?_, ?_, ?_, ?_, hw, ha, hb⟩
      · have := hat 0 (by omega)
        rw [Go.Deep.add_add] at this
        exact this
      · have := hat 1 (by omega)
        rw [Go.Deep.add_add] at this
        exact this
      · have := hat 2 (by omega)
        rw [Go.Deep.add_add] at this
        exact this
      · have := hat 3 (by omega)
        rw [Go.Deep.add_add] at this
        exact this
    have hch : ∃ Y : Nat → Ac, ∀ i, i < len → w.cell? (a.add (i * 4)) = some (.int .i64 (Y i).kind) ∧ w.cell? (a.add (i * 4 + 1)) = some (.int .i64 (Y i).slot) ∧ w.cell? (a.add (i * 4 + 2)) = some (.int .u64 ((Y i).a : Int)) ∧ w.cell? (a.add (i * 4 + 3)) = some (.int .u64 ((Y i).b : Int)) ∧ (Lit.int .i64 (Y i).slot).wf = true ∧ (Y i).a < 18446744073709551616 ∧ (Y i).b < 18446744073709551616 := by
      refine ⟨fun i => if h : i < len then (each i h).choose else ⟨0, 0, 0, 0⟩, fun i hil => ?_⟩
      simp only [dif_pos hil]
      exact (each i hil).choose_spec
    obtain ⟨Y, hY⟩ := hch
    refine ⟨(List.range len).map Y, some a, cap, by rw [List.length_map, List.length_range]; exact hv, fun hne => ?_, fun x hx => ?_⟩
    · have h0 : 0 < len := by
        rcases Nat.eq_zero_or_pos len with h0 | h0
        · exfalso; apply hne; subst h0; rfl
        · exact h0
      obtain ⟨ea, hb⟩ := addr_of_cell (hY 0 h0).1
      have ea' : a = ⟨a.block, a.off, none⟩ := by
        obtain ⟨b, o, s⟩ := a
        simpa [Addr.add] using ea
      refine ⟨a.block, a.off, by rw [← ea'], by simpa [Addr.add] using hb, fun j u hu => ?_⟩
      have hj : j < len * 4 := by
        have := acCells_length ((List.range len).map Y)
        simp only [List.length_map, List.length_range] at this
        rcases Nat.lt_or_ge j (len * 4) with h1 | h1
        · exact h1
        · rw [List.getElem?_eq_none (by omega)] at hu; cases hu
      have hq : j / 4 < len := by omega
      have hat := acCells_at ((List.range len).map Y) (j / 4) (Y (j / 4)) (by simp [hq])
      obtain ⟨g0, g1, g2, g3, _⟩ := hY (j / 4) hq
      rw [ea', add_off] at g0 g1 g2 g3
      have e : j % 4 = 0 ∨ j % 4 = 1 ∨ j % 4 = 2 ∨ j % 4 = 3 := by omega
      rcases e with e | e | e | e
      · have e2 : j / 4 * 4 = j := by omega
        rw [e2] at hat g0
        rw [hat.1] at hu
        rw [← Option.some.inj hu]
        exact g0
      · have e2 : j / 4 * 4 + 1 = j := by omega
        rw [e2] at hat g1
        rw [hat.2.1] at hu
        rw [← Option.some.inj hu]
        exact g1
      · have e2 : j / 4 * 4 + 2 = j := by omega
        rw [e2] at hat g2
        rw [hat.2.2.1] at hu
        rw [← Option.some.inj hu]
        exact g2
      · have e2 : j / 4 * 4 + 3 = j := by omega
        rw [e2] at hat g3
        rw [hat.2.2.2] at hu
        rw [← Option.some.inj hu]
        exact g3
    · obtain ⟨i, hi2, rfl⟩ := List.mem_map.1 hx
      exact (hY i (List.mem_range.1 hi2)).2.2.2.2
set_option maxRecDepth 100000 in
theorem open_nums {fuel : Nat} {v : Value} {x : DataW H × List MemPlace} (h : DataW.trod enc Tryz.prog w base spare held fuel 24 [v] = some x) :
    ∃ (l : List Int) (A : Option Addr) (cap : Nat), v = .slice A l.length cap ∧ l.length ≤ cap ∧ l.length ≤ 9223372036854775807 ∧ SlR w A (i64s l) := by
  rcases open_ints Tryz.underlying24 Tryz.underlying3 (by kernel_rfl) h with ⟨hcs, _⟩ | ⟨a, len, cap, zs, hcs, _, hl, hm, hz, _, hcell, _⟩
  · injection hcs with hv
    exact ⟨[], none, 0, hv, Nat.le_refl _, by simp, fun h => absurd rfl h⟩
  · injection hcs with hv
    have hlen : len ≤ zs.length := by rw [hz]; split <;> omega
    have hL : (zs.take len).length = len := by simp; omega
    unfold maxLen at hm
    refine ⟨zs.take len, some a, cap, by rw [hL]; exact hv, by rw [hL]; exact hl, by rw [hL]; omega, ?_⟩
    intro hne
    have h0 : 0 < len := by
      rcases Nat.eq_zero_or_pos len with h0 | h0
      · exfalso; apply hne; simp [i64s, h0]
      · exact h0
    obtain ⟨ea, hb⟩ := addr_of_cell (hcell 0 (by omega))
    have ea' : a = ⟨a.block, a.off, none⟩ := by
      obtain ⟨b, o, s⟩ := a
      simpa [Addr.add] using ea
    refine ⟨a.block, a.off, by rw [← ea'], by simpa [Addr.add] using hb, fun j u hu => ?_⟩
    have hj : j < len := by
      rcases Nat.lt_or_ge j len with h1 | h1
      · exact h1
      · rw [List.getElem?_eq_none (by simp [i64s]; omega)] at hu; cases hu
    have hzj : j < zs.length := by omega
    have := hcell j hzj
    rw [ea', add_off] at this
    rw [this, ← hu]
    have e1 : zs.getD j 0 = zs[j] := by simp [List.getD, List.getElem?_eq_getElem hzj]
    rw [e1]
    simp only [i64s, List.getElem?_map, List.getElem?_take_of_lt hj, List.getElem?_eq_getElem hzj, Option.map_some]
end
end Go.Proofs.YtflkoabgkgegjaaGreatDoor
