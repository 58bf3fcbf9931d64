/- What an argument that is a slice of ints is in memory; the table of TrailingZeros64 as the rows list it; the post of a row whose law only makes blocks. No condition. -/
import Derived.Test.YtbadoihpbemjjaaDoorV3
import Derived.Test.YtbadoihpbemjjaaDoorRows
import Derived.Test.YtbadoihpbemjjaaDoorCards
import Derived.Test.YtbadoihpbemjjaaDoorTie
import Derived.Deep.Slices
import Derived.Deep.Fields
import Derived.Deep.DeepHandedRow
import Derived.ProofKit
import Derived.ChangeSame
import Derived.Lib.LaidTab
import Derived.OpenShut
namespace Go.Proofs.YtbadoihpbemjjaaDoor
open Go.ChangeShapes Go.WideShapes Go.ChangeAt Go.RowKit Go.Deep

theorem addr_of_cell {w : World} {a : Addr} {v : Value} (h : w.cell? a = some v) : a = ⟨a.block, a.off, none⟩ ∧ a.block < w.heap.size := by
  refine ⟨?_, World.block_lt_of_cell? w a h⟩
  obtain ⟨b, o, s⟩ := a
  cases s with
  | none => rfl
  | some x =>
    simp only [World.cell?] at h
    split at h <;> simp at h

theorem add_off (b off i : Nat) : (⟨b, off, none⟩ : Addr).add i = ⟨b, off + i, none⟩ := by unfold Addr.add; split <;> simp_all

theorem gTab : Tryd.prog.globalNamed "math/bits.deBruijn64tab" = some 1 := by kernel_rfl
theorem gTabType : (Tryd.prog.globals[1]?).map (·.type) = some 108 := by kernel_rfl
theorem tabz_of_laid {W : World} (h : laidMetH Tryd.prog Rows.slabBackRow.laid W) : TabZ W := by
  obtain ⟨ps, ⟨_, _, _, _, _, _, _, _, _, _, ⟨g', t', cs, fuel, p, q, hg', ht', hvar, hd, _, _⟩, _⟩, _⟩ := (h : laidMet _ _ _)
  obtain rfl := Option.some.inj (gTab.symm.trans hg')
  obtain rfl := Option.some.inj (gTabType.symm.trans ht')
  obtain ⟨xs, m, rfl, hx, hlen, hn, hel⟩ := DataW.trod_array Tryd.underlying108 hd
  have c1 : Tryd.prog.cellsOf 5 = 1 := by kernel_rfl
  have hl : ∃ l, (Rows.laid_math_bits_deBruijn64tab : DataW Unit) = .agg l ∧ l = Lib.deBruijn64tab.map fun (t : Nat) => .lit (.int .u8 (t : Int)) := ⟨_, rfl, rfl⟩
  obtain ⟨l, hl1, hl2⟩ := hl
  simp only [Prod.mk.injEq] at hx
  rw [hl1] at hx
  have hmap : l = xs.map (·.1) := by
    have := hx.1
    injection this
  intro k hk
  have hxk : xs[k]? = some xs[k] := List.getElem?_eq_getElem (by omega)
  have h := (hel k hk).trans hxk
  obtain ⟨a, hc, hd2, _⟩ := DataW.trod_int Tryd.underlying5 h
  rw [c1] at hc
  have hak : Lib.deBruijn64tab[k]? = some (Lib.deBruijn64tab.getD k 0) := by
    have : k < Lib.deBruijn64tab.length := hk
    simp [List.getD, List.getElem?_eq_getElem this]
  have hrow : (xs.map (·.1))[k]? = some (.lit (.int .u8 ((Lib.deBruijn64tab.getD k 0 : Nat) : Int))) := by
    rw [← hmap, hl2, List.getElem?_map, hak]; rfl
  rw [List.getElem?_map, hxk] at hrow
  simp only [Option.map_some, Option.some.injEq] at hrow
  rw [hd2] at hrow
  simp only [DataW.lit.injEq, Lit.int.injEq, true_and] at hrow
  rw [← hrow]
  have cell : ∀ j u, ([.int .u8 a] : List Value)[j]? = some u → W.cell? ⟨1, k * 1 + j, none⟩ = some u := by
    intro j u hu
    rw [World.var?_cell gTab hvar, ← hc] at *
    rw [List.getElem?_take] at hu
    split at hu
    · rw [List.getElem?_drop] at hu
      simpa using hu
    · cases hu
  have := cell 0 _ rfl
  simpa using this

section
variable {H : Type} {enc : TypeId × Value → H} {P : Program}

theorem trodAll_below (hl : laidOutB P = true) {W W' : World} (hb : Below W.heap.size W W') {sp : Nat → Bool} : ∀ {ts : List TypeId} {vs : List Value} {ds : List (DataW H)} {ps : List MemPlace},
    (∀ t ∈ ts, P.readableRec t = true ∧ t < P.types.size) → DataW.TrodAll enc P W 0 (fun _ => true) true ts vs ds ps → (∀ x ∈ ps, x.block < W.heap.size) → (∀ x ∈ ps, sp x.block = true) → DataW.TrodAll enc P W' 0 sp true ts vs ds ps
  | [], _, _, _, _, h, _, _ => by
    obtain ⟨rfl, rfl, rfl⟩ := trodAll_nil h
    exact trodAll_mk0
  | t :: ts, _, _, _, ht, h, hlt, hsp => by
    obtain ⟨v0, vs0, d0, ds0, p0, q0, rfl, rfl, rfl, h0, r0⟩ := trodAll_cons h
    refine trodAll_cons_mk (WideElems.Trod_stays hl (ht t (by simp)).1 (ht t (by simp)).2 h0 (fun x hx => hb.same (hlt x (by simp [hx]))) (fun x hx => hsp x (by simp [hx])))
      (trodAll_below hl hb (fun u hu => ht u (by simp [hu])) r0 (fun x hx => hlt x (by simp [hx])) (fun x hx => hsp x (by simp [hx])))

theorem post_true {f : Func} {s : ChangeSpec} {apart fresh handsOn again : Bool} {W W' : World} {args : Array Value} {ds gs : List (DataW H)} {before : List MemPlace} {tb : TypeId}
    (hl : laidOutB P = true) (hp : ∀ t ∈ f.params.toList, P.readableRec t = true ∧ t < P.types.size) (hrt : f.resultTypes = #[tb]) (htb : P.underlying tb = some .bool) (hsv : s.vars = [])
    (hW : DataW.Whole enc P f.params.toList s.vars apart W args.toList ds gs before) (hs : ∀ ds', gs = [] → ds' = ds ++ gs → s.fn H ds' = { results := [.lit (.bool true)], args := ds }) (hb : Below W.heap.size W W') :
    s.post enc P f apart fresh handsOn again W args (.bool true) W' := by
  have hWt := hW.lt
  have hW' := hW
  obtain ⟨p, q, hA, hV, rfl, hz, hn⟩ := hW
  rw [hsv] at hV
  obtain ⟨rfl, rfl⟩ := trodVars_none hV
  have hs := hs _ rfl rfl
  have hltp : ∀ x ∈ p, x.block < W.heap.size := fun x hx => hWt x (by simp [hx])
  have hargs : ∀ sp : Nat → Bool, (∀ x ∈ p, sp x.block = true) → DataW.TrodAll enc P W' 0 sp true f.params.toList args.toList (s.fn H (ds ++ [])).args p := fun sp hsp => by
    rw [hs]; exact trodAll_below hl hb hp hA hltp hsp
  have hres : ∀ (b : Nat) (sp : Nat → Bool) (hd : Bool), DataW.TrodAll enc P W' b sp hd f.resultTypes.toList ((Value.bool true).resultList f.resultTypes.size) (s.fn H (ds ++ [])).results [] := fun b sp hd => by
    rw [hs, hrt]
    exact trodAll_cons_mk (shut_bool htb _) trodAll_mk0
  have hvars : ∀ sp : Nat → Bool, DataW.TrodVars enc P W' sp s.vars (s.fn H (ds ++ [])).vars [] := fun sp => by
    rw [hs, hsv]; rfl
  have hold : ∀ x ∈ p, (fun b => decide (b < W.heap.size)) x.block = true := fun x hx => by simpa using hltp x hx
  refine ⟨ds, [], p ++ [], [], p, [], hW', hres _ _ _, hargs _ hold, hvars _, World.keptBut_mono (fun x hx => ⟨hx, ?_⟩) (hb.frame (· ∈ p ++ [])), fun _ => ?_⟩
  · right; simpa using hx
  · refine ⟨ok_one hrt rfl (okWide_bool_mk htb _), _, _, ([] ++ p) ++ [], ⟨[] ++ p, [], trodAll_append (hargs _ (fun _ _ => rfl)) (hres _ _ _), hvars _, rfl, ?_, ?_⟩, ?_⟩
    · intro b off hx
      refine (hb.frozen ?_).trans (hz b off (by simpa using hx))
      exact hltp _ (by simpa using hx)
    · intro ha
      simpa using hn ha
    · intro x hx _
      simpa using hx
end
end Go.Proofs.YtbadoihpbemjjaaDoor
