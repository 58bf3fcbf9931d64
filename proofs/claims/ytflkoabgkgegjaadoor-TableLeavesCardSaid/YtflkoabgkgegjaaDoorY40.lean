/- What an argument that is a slice of ints is in memory; the table of TrailingZeros64 as the rows list it; the post of a row whose law only makes blocks. No condition. And what follows from it. -/
import Derived.Test.YtflkoabgkgegjaaDoorY39
import Derived.Test.YtflkoabgkgegjaaDoorRows
import Derived.Test.YtflkoabgkgegjaaDoorCards
import Derived.Test.YtflkoabgkgegjaaDoorTie
import Derived.Deep.Slices
import Derived.Deep.Fields
import Derived.Deep.DeepHandedRow
import Derived.ProofKit
import Derived.ChangeSame
import Derived.Lib.LaidTab
import Derived.OpenShut
/- What an argument that is a slice of ints is in memory; the table of TrailingZeros64 as the rows list it; the post of a row whose law only makes blocks. No condition. -/
namespace Go.Proofs.YtflkoabgkgegjaaDoor
open Go.ChangeShapes Go.WideShapes Go.ChangeAt Go.RowKit Go.Deep

theorem addr_of_cell {w : World} {a : Addr} {v : Value} (h : w.cell? a = some v) : a = ⟨a.block, a.off, none⟩ ∧ a.block < w.heap.size := by
  refine ⟨?_, World.block_lt_of_cell? w a h⟩
  obtain ⟨b, o, s⟩ := a
  cases s with
  | none => rfl
  | some x =>
    simp only [World.cell?] at h
    split at h <;> simp at h

theorem add_off (b off i : Nat) : (⟨b, off, none⟩ : Addr).add i = ⟨b, off + i, none⟩ := by unfold Addr.add; split <;> simp_all

theorem gTab : Tryd.prog.globalNamed "math/bits.deBruijn64tab" = some 2 := by kernel_rfl
theorem gTabType : (Tryd.prog.globals[2]?).map (·.type) = some 129 := by kernel_rfl
def costTab : List Nat := [0, 64, 128, 256, 32, 32, 48, 256]
theorem gCost : Tryd.prog.globalNamed "quartermaster/pool.costs" = some 0 := by kernel_rfl
theorem gCostType : (Tryd.prog.globals[0]?).map (·.type) = some 63 := by kernel_rfl
theorem tabz_of_laid {W : World} (h : laidMetH Tryd.prog Rows.tableBackRow.laid W) : TabZ W := by
  obtain ⟨ps, ⟨_, _, _, _, _, _, _, _, _, _, ⟨g', t', cs, fuel, p, q, hg', ht', hvar, hd, _, _⟩, _⟩, _⟩ := (h : laidMet _ _ _)
  obtain rfl := Option.some.inj (gTab.symm.trans hg')
  obtain rfl := Option.some.inj (gTabType.symm.trans ht')
  obtain ⟨xs, m, rfl, hx, hlen, hn, hel⟩ := DataW.trod_array Tryd.underlying129 hd
  have c1 : Tryd.prog.cellsOf 5 = 1 := by kernel_rfl
  have hl : ∃ l, (Rows.laid_math_bits_deBruijn64tab : DataW Unit) = .agg l ∧ l = Lib.deBruijn64tab.map fun (t : Nat) => .lit (.int .u8 (t : Int)) := ⟨_, rfl, rfl⟩
  obtain ⟨l, hl1, hl2⟩ := hl
  simp only [Prod.mk.injEq] at hx
  rw [hl1] at hx
  have hmap : l = xs.map (·.1) := by
    have := hx.1
    injection this
  intro k hk
  have hxk : xs[k]? = some xs[k] := List.getElem?_eq_getElem (by omega)
  have h := (hel k hk).trans hxk
  obtain ⟨a, hc, hd2, _⟩ := DataW.trod_int Tryd.underlying5 h
  rw [c1] at hc
  have hak : Lib.deBruijn64tab[k]? = some (Lib.deBruijn64tab.getD k 0) := by
    have : k < Lib.deBruijn64tab.length := hk
    simp [List.getD, List.getElem?_eq_getElem this]
  have hrow : (xs.map (·.1))[k]? = some (.lit (.int .u8 ((Lib.deBruijn64tab.getD k 0 : Nat) : Int))) := by
    rw [← hmap, hl2, List.getElem?_map, hak]; rfl
  rw [List.getElem?_map, hxk] at hrow
  simp only [Option.map_some, Option.some.injEq] at hrow
  rw [hd2] at hrow
  simp only [DataW.lit.injEq, Lit.int.injEq, true_and] at hrow
  rw [← hrow]
  have cell : ∀ j u, ([.int .u8 a] : List Value)[j]? = some u → W.cell? ⟨2, k * 1 + j, none⟩ = some u := by
    intro j u hu
    rw [World.var?_cell gTab hvar, ← hc] at *
    rw [List.getElem?_take] at hu
    split at hu
    · rw [List.getElem?_drop] at hu
      simpa using hu
    · cases hu
  have := cell 0 _ rfl
  simpa using this

theorem tabc_of_laid {W : World} (h : laidMetH Tryd.prog Rows.tableBackRow.laid W) : TabC W := by
  obtain ⟨ps, ⟨_, _, _, _, _, _, _, _, _, _, ⟨_, _, _, _, _, _, _, _, _, _, ⟨g', t', cs, fuel, p, q, hg', ht', hvar, hd, _, _⟩, _⟩, _⟩, _⟩ := (h : laidMet _ _ _)
  obtain rfl := Option.some.inj (gCost.symm.trans hg')
  obtain rfl := Option.some.inj (gCostType.symm.trans ht')
  obtain ⟨xs, m, rfl, hx, hlen, hn, hel⟩ := DataW.trod_array Tryd.underlying63 hd
  have c1 : Tryd.prog.cellsOf 3 = 1 := by kernel_rfl
  have hl : ∃ l, (Rows.laid_quartermaster_pool_costs : DataW Unit) = .agg l ∧ l = costTab.map fun (t : Nat) => .lit (.int .i64 (t : Int)) := ⟨_, rfl, rfl⟩
  obtain ⟨l, hl1, hl2⟩ := hl
  simp only [Prod.mk.injEq] at hx
  rw [hl1] at hx
  have hmap : l = xs.map (·.1) := by
    have := hx.1
    injection this
  intro k hk
  have hxk : xs[k]? = some xs[k] := List.getElem?_eq_getElem (by omega)
  have h := (hel k hk).trans hxk
  obtain ⟨a, hc, hd2, _⟩ := DataW.trod_int Tryd.underlying3 h
  rw [c1] at hc
  have hak : costTab[k]? = some (costTab.getD k 0) := by
    have : k < costTab.length := hk
    simp [List.getD, List.getElem?_eq_getElem this]
  have hrow : (xs.map (·.1))[k]? = some (.lit (.int .i64 ((costTab.getD k 0 : Nat) : Int))) := by
    rw [← hmap, hl2, List.getElem?_map, hak]; rfl
  rw [List.getElem?_map, hxk] at hrow
  simp only [Option.map_some, Option.some.injEq] at hrow
  rw [hd2] at hrow
  simp only [DataW.lit.injEq, Lit.int.injEq, true_and] at hrow
  show W.cell? _ = some (.int .i64 ((costTab.getD k 0 : Nat) : Int))
  rw [← hrow]
  have cell : ∀ j u, ([.int .i64 a] : List Value)[j]? = some u → W.cell? ⟨0, k * 1 + j, none⟩ = some u := by
    intro j u hu
    rw [World.var?_cell gCost hvar, ← hc] at *
    rw [List.getElem?_take] at hu
    split at hu
    · rw [List.getElem?_drop] at hu
      simpa using hu
    · cases hu
  have := cell 0 _ rfl
  simpa using this

section
variable {H : Type} {enc : TypeId × Value → H} {P : Program}

theorem trodAll_below (hl : laidOutB P = true) {W W' : World} (hb : Below W.heap.size W W') {sp : Nat → Bool} : ∀ {ts : List TypeId} {vs : List Value} {ds : List (DataW H)} {ps : List MemPlace},
    (∀ t ∈ ts, P.readableRec t = true ∧ t < P.types.size) → DataW.TrodAll enc P W 0 (fun _ => true) true ts vs ds ps → (∀ x ∈ ps, x.block < W.heap.size) → (∀ x ∈ ps, sp x.block = true) → DataW.TrodAll enc P W' 0 sp true ts vs ds ps
  | [], _, _, _, _, h, _, _ => by
    obtain ⟨rfl, rfl, rfl⟩ := trodAll_nil h
    exact trodAll_mk0
  | t :: ts, _, _, _, ht, h, hlt, hsp => by
    obtain ⟨v0, vs0, d0, ds0, p0, q0, rfl, rfl, rfl, h0, r0⟩ := trodAll_cons h
    refine trodAll_cons_mk (WideElems.Trod_stays hl (ht t (by simp)).1 (ht t (by simp)).2 h0 (fun x hx => hb.same (hlt x (by simp [hx]))) (fun x hx => hsp x (by simp [hx])))
      (trodAll_below hl hb (fun u hu => ht u (by simp [hu])) r0 (fun x hx => hlt x (by simp [hx])) (fun x hx => hsp x (by simp [hx])))

theorem post_true {f : Func} {s : ChangeSpec} {apart fresh handsOn again : Bool} {W W' : World} {args : Array Value} {ds gs : List (DataW H)} {before : List MemPlace} {tb : TypeId}
    (hl : laidOutB P = true) (hp : ∀ t ∈ f.params.toList, P.readableRec t = true ∧ t < P.types.size) (hrt : f.resultTypes = #[tb]) (htb : P.underlying tb = some .bool) (hsv : s.vars = [])
    (hW : DataW.Whole enc P f.params.toList s.vars apart W args.toList ds gs before) (hs : ∀ ds', gs = [] → ds' = ds ++ gs → s.fn H ds' = { results := [.lit (.bool true)], args := ds }) (hb : Below W.heap.size W W') :
    s.post enc P f apart fresh handsOn again W args (.bool true) W' := by
  have hWt := hW.lt
  have hW' := hW
  obtain ⟨p, q, hA, hV, rfl, hz, hn⟩ := hW
  rw [hsv] at hV
  obtain ⟨rfl, rfl⟩ := trodVars_none hV
  have hs := hs _ rfl rfl
  have hltp : ∀ x ∈ p, x.block < W.heap.size := fun x hx => hWt x (by simp [hx])
  have hargs : ∀ sp : Nat → Bool, (∀ x ∈ p, sp x.block = true) → DataW.TrodAll enc P W' 0 sp true f.params.toList args.toList (s.fn H (ds ++ [])).args p := fun sp hsp => by
    rw [hs]; exact trodAll_below hl hb hp hA hltp hsp
  have hres : ∀ (b : Nat) (sp : Nat → Bool) (hd : Bool), DataW.TrodAll enc P W' b sp hd f.resultTypes.toList ((Value.bool true).resultList f.resultTypes.size) (s.fn H (ds ++ [])).results [] := fun b sp hd => by
    rw [hs, hrt]
    exact trodAll_cons_mk (shut_bool htb _) trodAll_mk0
  have hvars : ∀ sp : Nat → Bool, DataW.TrodVars enc P W' sp s.vars (s.fn H (ds ++ [])).vars [] := fun sp => by
    rw [hs, hsv]; rfl
  have hold : ∀ x ∈ p, (fun b => decide (b < W.heap.size)) x.block = true := fun x hx => by simpa using hltp x hx
  refine ⟨ds, [], p ++ [], [], p, [], hW', hres _ _ _, hargs _ hold, hvars _, World.keptBut_mono (fun x hx => ⟨hx, ?_⟩) (hb.frame (· ∈ p ++ [])), fun _ => ?_⟩
  · right; simpa using hx
  · refine ⟨ok_one hrt rfl (okWide_bool_mk htb _), _, _, ([] ++ p) ++ [], ⟨[] ++ p, [], trodAll_append (hargs _ (fun _ _ => rfl)) (hres _ _ _), hvars _, rfl, ?_, ?_⟩, ?_⟩
    · intro b off hx
      refine (hb.frozen ?_).trans (hz b off (by simpa using hx))
      exact hltp _ (by simpa using hx)
    · intro ha
      simpa using hn ha
    · intro x hx _
      simpa using hx
end
end Go.Proofs.YtflkoabgkgegjaaDoor
/- What an argument that is a slice of bytes is in memory. No condition. -/
namespace Go.Proofs.YtflkoabgkgegjaaDoor
open Ar Go.ChangeShapes Go.WideShapes Go.ChangeAt Go.RowKit Go.Deep

section
variable {H : Type} {enc : TypeId × Value → H} {w : World} {base : Nat} {spare : Nat → Bool} {held : Bool}

/-- a slice of bytes -/
theorem open_bytes {fuel : Nat} {v : Value} {x : DataW H × List MemPlace} (h : DataW.trod enc Tryd.prog w base spare held fuel 45 [v] = some x) :
    ∃ (l : List Nat) (A : Option Addr) (cap : Nat), v = .slice A l.length cap ∧ l.length ≤ cap ∧ l.length ≤ 9223372036854775807 ∧ (∀ x ∈ l, x < 256) ∧ SlR w A (u8s l) ∧ (A = none → cap = 0) := by
  rcases open_ints Tryd.underlying45 Tryd.underlying5 (by kernel_rfl) h with ⟨hcs, _⟩ | ⟨a, len, cap, zs, hcs, _, hl, hm, hz, _, hcell, hwf⟩
  · injection hcs with hv
    exact ⟨[], none, 0, hv, Nat.le_refl _, by simp, by simp, fun h => absurd rfl h, fun _ => rfl⟩
  · injection hcs with hv
    have hlen : len ≤ zs.length := by rw [hz]; split <;> omega
    have hL : ((zs.take len).map Int.toNat).length = len := by simp; omega
    unfold maxLen at hm
    have hpos : ∀ z ∈ zs, 0 ≤ z ∧ z < 256 := fun z hz => by
      have := hwf z hz
      simp [Lit.wf, IntKind.min, IntKind.max, IntKind.signed, IntKind.bits] at this
      omega
    refine ⟨(zs.take len).map Int.toNat, some a, cap, by rw [hL]; exact hv, by rw [hL]; exact hl, by rw [hL]; omega, ?_, ?_, fun h => by cases h⟩
    · intro x hx
      obtain ⟨z, hz, rfl⟩ := List.mem_map.1 hx
      have := hpos z (List.mem_of_mem_take hz)
      omega
    · intro hne
      have h0 : 0 < len := by
        rcases Nat.eq_zero_or_pos len with h0 | h0
        · exfalso; apply hne; simp [u8s, h0]
        · exact h0
      obtain ⟨ea, hb⟩ := addr_of_cell (hcell 0 (by omega))
      have ea' : a = ⟨a.block, a.off, none⟩ := by
        obtain ⟨b, o, s⟩ := a
        simpa [Addr.add] using ea
      refine ⟨a.block, a.off, by rw [← ea'], by simpa [Addr.add] using hb, fun j u hu => ?_⟩
      have hj : j < len := by
        rcases Nat.lt_or_ge j len with h1 | h1
        · exact h1
        · rw [List.getElem?_eq_none (by simp [u8s]; omega)] at hu; cases hu
      have hzj : j < zs.length := by omega
      have := hcell j hzj
      rw [ea', add_off] at this
      rw [this, ← hu]
      have e1 : zs.getD j 0 = zs[j] := by simp [List.getD, List.getElem?_eq_getElem hzj]
      have e2 := hpos zs[j] (List.getElem_mem hzj)
      rw [e1]
      simp only [u8s, List.getElem?_map, List.getElem?_take_of_lt hj, List.getElem?_eq_getElem hzj, Option.map_some]
      rw [Int.toNat_of_nonneg e2.1]

end
end Go.Proofs.YtflkoabgkgegjaaDoor
