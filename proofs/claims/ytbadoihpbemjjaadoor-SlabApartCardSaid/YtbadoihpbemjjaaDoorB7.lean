/- The contract of sorted, whole. Condition: no two blocks have one address. -/
import Derived.Test.YtbadoihpbemjjaaDoorB6
namespace Go.Proofs.YtbadoihpbemjjaaDoor
open Go.RowKit Go.Sort Go.Lib

theorem enters_sorted (args : Array Value) (w : World) : (callFunc 65 args).run Tryd.prog w = .ok (.enter 65 args) w := enters_of Tryd.func65 (by kernel_rfl) rfl args w
theorem bCells_enc (L : List (Nat × Nat)) (t : Nat) (ht : t < L.length * 2) : (bCells L)[t]? = some (encB (L[t / 2]'(by omega)))[t % 2]! := by
  have hk : t / 2 < L.length := by omega
  have h := bCells_at L (t / 2) L[t / 2] (List.getElem?_eq_getElem hk)
  by_cases e : t % 2 = 0
  · rw [e]
    have e2 : t / 2 * 2 = t := by omega
    rw [e2] at h
    rw [h.1]
    rfl
  · have e1 : t % 2 = 1 := by omega
    rw [e1]
    have e2 : t / 2 * 2 + 1 = t := by omega
    rw [e2] at h
    rw [h.2]
    rfl
theorem below_sortWorld (B : Nat) (w : World) (blk off n : Nat) (d : Array (Nat × Nat)) (os : Array Obj) (hB : B ≤ blk) (hb : B ≤ w.heap.size) : RowKit.Below B w (sortWorldK encB 2 w blk off n d os) := by
  have hs : (putRowK encB 2 (Sort.ahead w n) blk off d).heap.size = w.heap.size := by rw [size_putRowK]; rfl
  refine ⟨rfl, rfl, rfl, ?_, fun k hk => ?_⟩
  · unfold sortWorldK
    rw [size_grow, hs]
    exact Nat.le_add_right _ _
  · unfold sortWorldK grow
    show ((putRowK encB 2 (Sort.ahead w n) blk off d).heap ++ os)[k]? = w.heap[k]?
    rw [Array.getElem?_append_left (by rw [hs]; omega)]
    unfold putRowK putRow mapBlock
    show (w.heap.modify blk _)[k]? = _
    rw [Array.getElem?_modify, if_neg (by omega)]
theorem row_sortWorld (w : World) (blk off n : Nat) (d : Array (Nat × Nat)) (os : Array Obj) (cur : Array Value) (t : TypeId) (h : w.heap[blk]? = some (.cells cur t (0, 0))) : (sortWorldK encB 2 w blk off n d os).heap[blk]? = some (.cells (putCells id off (flatK encB 2 d) cur) t (0, 0)) := by
  have hb := blt h
  have hs : (putRowK encB 2 (Sort.ahead w n) blk off d).heap.size = w.heap.size := by rw [size_putRowK]; rfl
  unfold sortWorldK grow
  show ((putRowK encB 2 (Sort.ahead w n) blk off d).heap ++ os)[blk]? = _
  rw [Array.getElem?_append_left (by rw [hs]; omega)]
  unfold putRowK putRow mapBlock
  show (w.heap.modify blk _)[blk]? = _
  rw [Array.getElem?_modify, if_pos rfl, h]
  rfl
set_option maxHeartbeats 1000000 in
theorem sorted_b (L : List (Nat × Nat)) (hN : L.Pairwise (fun x y => x.1 ≠ y.1)) (A : Option Addr) (cap n base : Nat) (hn : L.length = n) (w : World) (hown : w.ownsRow base 86 2 (.slice A n cap) n (bCells L)) (hbase : base ≤ w.heap.size) (hnb : n < 1073741824) :
    Calls Tryd.prog 43 #[.slice A n cap] w fun e w' => ∃ M, e = .returned (.slice A n cap) ∧ M.Perm L ∧ Rises M ∧ HeldS w' (A, bCells M) ∧ RowKit.Below base w w' := by
  have key : Calls Tryd.prog 64 #[.slice A n cap, .func (.func 65) #[] #[]] w fun e w' => e = .returned (.tuple #[]) ∧ ∃ M, M.Perm L ∧ Rises M ∧ HeldS w' (A, bCells M) ∧ RowKit.Below base w w' := by
    cases n with
    | zero =>
      have : L = [] := List.eq_nil_of_length_eq_zero hn
      subst this
      have h := AnyF.slices_SortFunc_none sortBlk A cap (.func (.func 65) #[] #[]) w
      change Calls Tryd.prog 64 _ _ _ at h
      refine h.mono ?_
      rintro e w' ⟨rfl, rfl⟩
      exact ⟨rfl, [], .refl _, List.Pairwise.nil, HeldS.nil _ _, RowKit.Below.refl _ _⟩
    | succ n =>
      rcases hown.2 with ⟨_, h0⟩ | ⟨g, cap', cur, hv, hg, hh, hnc, hcm, hs, ht⟩
      · omega
      injection hv with hA _ hc
      subst hA hc
      have hlen := bCells_length L
      have hcap : n + 1 ≤ 4611686018427387903 := by omega
      have hH : HoldsK encB 2 w g 0 L.toArray := fun t htt => by
        rw [size_flatK] at htt
        simp only [List.size_toArray] at htt
        have e1 := bCells_enc L t htt
        rw [get_flatK _ _ _ _ (by simpa using htt)]
        refine ⟨?_, ?_⟩
        · rw [cell_of_row _ _ _ _ _ _ hh]
          rw [← ht, List.getElem?_take_of_lt (by omega)] at e1
          rw [← Array.getElem?_toList, Nat.zero_add, e1]
          congr 2
          simp [show t / 2 < L.length by omega]
        · simp [World.frozen?, hh]
      have hgl : g < w.heap.size := blt hh
      have h := AnyQ.slices_SortFunc sortBlk 2 aggB sizeB encB (fun _ => rfl) (fun x v hv => by simp [encB] at hv; rcases hv with rfl | rfl <;> rfl) cfB swoB 65 #[] g 0 cap L.toArray w enters_sorted (cmpB g 0 L.toArray.size w) hH hgl (by simp; omega)
      change Calls Tryd.prog 64 _ _ _ at h
      simp only [List.size_toArray, hn] at h
      refine h.mono ?_
      rintro e w' ⟨rfl, d', m, os, hp, hso, rfl⟩
      have hsz : d'.size = n + 1 := by rw [hp.1]; simp [hn]
      have hperm : d'.toList.Perm L := by
        have := hp.2.2
        rw [show n + 1 = d'.size by omega] at this
        have e2 : (L.toArray.extract 0 d'.size).toList = L := by rw [hsz, ← hn]; simp
        have e3 : (d'.extract 0 d'.size).toList = d'.toList := by simp
        rw [e2, e3] at this
        exact this
      have hN2 : d'.toList.Pairwise (fun x y => x.1 ≠ y.1) := (hperm.pairwise_iff (fun {_ _} h => Ne.symm h)).2 hN
      have hH2 := holdsK_sortWorldK encB 2 w g 0 m L.toArray d' os hgl hH (by rw [hsz]; simp [hn])
      refine ⟨rfl, d'.toList, hperm, ?_, fun _ => ⟨g, 0, _, 86, rfl, row_sortWorld w g 0 m d' os cur _ hh, ⟨by decide, (tyOf_bCells _).symm⟩, fun j u hu => ?_⟩, below_sortWorld base w g 0 m d' os hg hbase⟩
      · refine List.pairwise_iff_getElem.2 fun i j hi hj hij => ?_
        have h1 := List.pairwise_iff_getElem.1 hN2 i j hi hj hij
        have h2 := hso i j (Nat.zero_le _) hij (by simp at hj; omega)
        rw [ltB] at h2
        simp only [Array.length_toList] at hi hj
        rw [getElem!_pos d' j hj, getElem!_pos d' i hi] at h2
        have h3 := of_decide_eq_false h2
        simp only [Array.getElem_toList] at h1 ⊢
        omega
      · have hj : j < d'.toList.length * 2 := by
          rw [← bCells_length]
          rcases Nat.lt_or_ge j (bCells d'.toList).length with h1 | h1
          · exact h1
          · rw [List.getElem?_eq_none h1] at hu; cases hu
        have e1 := bCells_enc d'.toList j hj
        rw [hu] at e1
        simp only [Array.length_toList] at hj
        have h4 := (hH2.cell (i := j / 2) (c := j % 2) (by omega) (Nat.mod_lt _ (by omega))).1
        rw [show 0 + j / 2 * 2 + j % 2 = 0 + j by omega] at h4
        rw [cell_of_row _ _ _ _ _ _ (row_sortWorld w g 0 m d' os cur _ hh)] at h4
        rw [h4, e1]
        congr 2
        simp [show j / 2 < d'.size by omega]
  clear hown
  go_enter Tryd.func43, Tryd.ntmps43
  go_wp2_with fail
  refine key.mono ?_
  rintro e w' ⟨rfl, M, h1, h2, h3, h4⟩
  have H := Lib.hid (And.intro h1 (And.intro h2 (And.intro h3 h4)))
  clear h1 h2 h3 h4
  go_wp2
  go_ret
  exact ⟨M, rfl, H.out⟩
end Go.Proofs.YtbadoihpbemjjaaDoor
