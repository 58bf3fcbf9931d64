/- The contract of sorted, whole. Condition: no two blocks have one address. And what follows from it. -/
import Derived.Test.YtbadoihpbemjjaaDoorY8
/- The contract of sorted, whole. Condition: no two blocks have one address. -/
namespace Go.Proofs.YtbadoihpbemjjaaDoor
open Go.RowKit Go.Sort Go.Lib

theorem enters_sorted (args : Array Value) (w : World) : (callFunc 65 args).run Tryd.prog w = .ok (.enter 65 args) w := enters_of Tryd.func65 (by kernel_rfl) rfl args w
theorem bCells_enc (L : List (Nat × Nat)) (t : Nat) (ht : t < L.length * 2) : (bCells L)[t]? = some (encB (L[t / 2]'(by omega)))[t % 2]! := by
  have hk : t / 2 < L.length := by omega
  have h := bCells_at L (t / 2) L[t / 2] (List.getElem?_eq_getElem hk)
  by_cases e : t % 2 = 0
  · rw [e]
    have e2 : t / 2 * 2 = t := by omega
    rw [e2] at h
    rw [h.1]
    rfl
  · have e1 : t % 2 = 1 := by omega
    rw [e1]
    have e2 : t / 2 * 2 + 1 = t := by omega
    rw [e2] at h
    rw [h.2]
    rfl
theorem below_sortWorld (B : Nat) (w : World) (blk off n : Nat) (d : Array (Nat × Nat)) (os : Array Obj) (hB : B ≤ blk) (hb : B ≤ w.heap.size) : RowKit.Below B w (sortWorldK encB 2 w blk off n d os) := by
  have hs : (putRowK encB 2 (Sort.ahead w n) blk off d).heap.size = w.heap.size := by rw [size_putRowK]; rfl
  refine ⟨rfl, rfl, rfl, ?_, fun k hk => ?_⟩
  · unfold sortWorldK
    rw [size_grow, hs]
    exact Nat.le_add_right _ _
  · unfold sortWorldK grow
    show ((putRowK encB 2 (Sort.ahead w n) blk off d).heap ++ os)[k]? = w.heap[k]?
    rw [Array.getElem?_append_left (by rw [hs]; omega)]
    unfold putRowK putRow mapBlock
    show (w.heap.modify blk _)[k]? = _
    rw [Array.getElem?_modify, if_neg (by omega)]
theorem row_sortWorld (w : World) (blk off n : Nat) (d : Array (Nat × Nat)) (os : Array Obj) (cur : Array Value) (t : TypeId) (h : w.heap[blk]? = some (.cells cur t (0, 0))) : (sortWorldK encB 2 w blk off n d os).heap[blk]? = some (.cells (putCells id off (flatK encB 2 d) cur) t (0, 0)) := by
  have hb := blt h
  have hs : (putRowK encB 2 (Sort.ahead w n) blk off d).heap.size = w.heap.size := by rw [size_putRowK]; rfl
  unfold sortWorldK grow
  show ((putRowK encB 2 (Sort.ahead w n) blk off d).heap ++ os)[blk]? = _
  rw [Array.getElem?_append_left (by rw [hs]; omega)]
  unfold putRowK putRow mapBlock
  show (w.heap.modify blk _)[blk]? = _
  rw [Array.getElem?_modify, if_pos rfl, h]
  rfl
set_option maxHeartbeats 1000000 in
theorem sorted_b (L : List (Nat × Nat)) (hN : L.Pairwise (fun x y => x.1 ≠ y.1)) (A : Option Addr) (cap n base : Nat) (hn : L.length = n) (w : World) (hown : w.ownsRow base 86 2 (.slice A n cap) n (bCells L)) (hbase : base ≤ w.heap.size) (hnb : n < 1073741824) :
    Calls Tryd.prog 43 #[.slice A n cap] w fun e w' => ∃ M, e = .returned (.slice A n cap) ∧ M.Perm L ∧ Rises M ∧ HeldS w' (A, bCells M) ∧ RowKit.Below base w w' := by
  have key : Calls Tryd.prog 64 #[.slice A n cap, .func (.func 65) #[] #[]] w fun e w' => e = .returned (.tuple #[]) ∧ ∃ M, M.Perm L ∧ Rises M ∧ HeldS w' (A, bCells M) ∧ RowKit.Below base w w' := by
    cases n with
    | zero =>
      have : L = [] := List.eq_nil_of_length_eq_zero hn
      subst this
      have h := AnyF.slices_SortFunc_none sortBlk A cap (.func (.func 65) #[] #[]) w
      change Calls Tryd.prog 64 _ _ _ at h
      refine h.mono ?_
      rintro e w' ⟨rfl, rfl⟩
      exact ⟨rfl, [], .refl _, List.Pairwise.nil, HeldS.nil _ _, RowKit.Below.refl _ _⟩
    | succ n =>
      rcases hown.2 with ⟨_, h0⟩ | ⟨g, cap', cur, hv, hg, hh, hnc, hcm, hs, ht⟩
      · omega
      injection hv with hA _ hc
      subst hA hc
      have hlen := bCells_length L
      have hcap : n + 1 ≤ 4611686018427387903 := by omega
      have hH : HoldsK encB 2 w g 0 L.toArray := fun t htt => by
        rw [size_flatK] at htt
        simp only [List.size_toArray] at htt
        have e1 := bCells_enc L t htt
        rw [get_flatK _ _ _ _ (by simpa using htt)]
        refine ⟨?_, ?_⟩
        · rw [cell_of_row _ _ _ _ _ _ hh]
          rw [← ht, List.getElem?_take_of_lt (by omega)] at e1
          rw [← Array.getElem?_toList, Nat.zero_add, e1]
          congr 2
          simp [show t / 2 < L.length by omega]
        · simp [World.frozen?, hh]
      have hgl : g < w.heap.size := blt hh
      have h := AnyQ.slices_SortFunc sortBlk 2 aggB sizeB encB (fun _ => rfl) (fun x v hv => by simp [encB] at hv; rcases hv with rfl | rfl <;> rfl) cfB swoB 65 #[] g 0 cap L.toArray w enters_sorted (cmpB g 0 L.toArray.size w) hH hgl (by simp; omega)
      change Calls Tryd.prog 64 _ _ _ at h
      simp only [List.size_toArray, hn] at h
      refine h.mono ?_
      rintro e w' ⟨rfl, d', m, os, hp, hso, rfl⟩
      have hsz : d'.size = n + 1 := by rw [hp.1]; simp [hn]
      have hperm : d'.toList.Perm L := by
        have := hp.2.2
        rw [show n + 1 = d'.size by omega] at this
        have e2 : (L.toArray.extract 0 d'.size).toList = L := by rw [hsz, ← hn]; simp
        have e3 : (d'.extract 0 d'.size).toList = d'.toList := by simp
        rw [e2, e3] at this
        exact this
      have hN2 : d'.toList.Pairwise (fun x y => x.1 ≠ y.1) := (hperm.pairwise_iff (fun {_ _} h => Ne.symm h)).2 hN
      have hH2 := holdsK_sortWorldK encB 2 w g 0 m L.toArray d' os hgl hH (by rw [hsz]; simp [hn])
      refine ⟨rfl, d'.toList, hperm, ?_, fun _ => ⟨g, 0, _, 86, rfl, row_sortWorld w g 0 m d' os cur _ hh, ⟨by decide, (tyOf_bCells _).symm⟩, fun j u hu => ?_⟩, below_sortWorld base w g 0 m d' os hg hbase⟩
      · refine List.pairwise_iff_getElem.2 fun i j hi hj hij => ?_
        have h1 := List.pairwise_iff_getElem.1 hN2 i j hi hj hij
        have h2 := hso i j (Nat.zero_le _) hij (by simp at hj; omega)
        rw [ltB] at h2
        simp only [Array.length_toList] at hi hj
        rw [getElem!_pos d' j hj, getElem!_pos d' i hi] at h2
        have h3 := of_decide_eq_false h2
        simp only [Array.getElem_toList] at h1 ⊢
        omega
      · have hj : j < d'.toList.length * 2 := by
          rw [← bCells_length]
          rcases Nat.lt_or_ge j (bCells d'.toList).length with h1 | h1
          · exact h1
          · rw [List.getElem?_eq_none h1] at hu; cases hu
        have e1 := bCells_enc d'.toList j hj
        rw [hu] at e1
        simp only [Array.length_toList] at hj
        have h4 := (hH2.cell (i := j / 2) (c := j % 2) (by omega) (Nat.mod_lt _ (by omega))).1
        rw [show 0 + j / 2 * 2 + j % 2 = 0 + j by omega] at h4
        rw [cell_of_row _ _ _ _ _ _ (row_sortWorld w g 0 m d' os cur _ hh)] at h4
        rw [h4, e1]
        congr 2
        simp [show j / 2 < d'.size by omega]
  clear hown
  go_enter Tryd.func43, Tryd.ntmps43
  go_wp2_with fail
  refine key.mono ?_
  rintro e w' ⟨rfl, M, h1, h2, h3, h4⟩
  have H := Lib.hid (And.intro h1 (And.intro h2 (And.intro h3 h4)))
  clear h1 h2 h3 h4
  go_wp2
  go_ret
  exact ⟨M, rfl, H.out⟩
end Go.Proofs.YtbadoihpbemjjaaDoor
/- The contract of Free. Condition: the allocator's state is held, its tiles lie as they may. -/
namespace Go.Proofs.YtbadoihpbemjjaaDoor
open Go.RowKit Go.Maps
variable {W w : World} {S : List (Option Addr × List Value)} {b top : Nat} {gm gw : Nat → Nat} {mu n : Nat} {F : Nat → Nat → Bool} {U : Int → Option Nat}

/-- the free blocks found so far: of the orders below k, and of the order k below the place f -/
structure Got (F : Nat → Nat → Bool) (top k f : Nat) (L : List (Nat × Nat)) : Prop where
  nodup : L.Nodup
  mem : ∀ x, x ∈ L ↔ ∃ i, x.1 = i * 2 ^ x.2 ∧ x.2 ≤ top ∧ i < 2 ^ (top - x.2) ∧ F x.2 i = true ∧ (x.2 < k ∨ x.2 = k ∧ i < f)
  len : L.length ≤ k * 1048576 + f
theorem Got.start (F : Nat → Nat → Bool) (top : Nat) : Got F top 0 0 [] := ⟨List.nodup_nil, fun x => ⟨fun h => absurd h List.not_mem_nil, fun ⟨i, _, _, _, _, h⟩ => by omega⟩, by simp⟩
theorem Got.next {F : Nat → Nat → Bool} {top k f : Nat} {L : List (Nat × Nat)} (h : Got F top k f L) (hk : k ≤ top) (h20 : top ≤ 20) (hf : f ≤ 2 ^ (top - k)) (hn : ∀ i, f ≤ i → i < 2 ^ (top - k) → F k i = false) : Got F top (k + 1) 0 L := by
  refine ⟨h.nodup, fun x => ?_, ?_⟩
  · rw [h.mem]
    constructor
    · rintro ⟨i, h1, h2, h3, h4, h5⟩
      exact ⟨i, h1, h2, h3, h4, by omega⟩
    · rintro ⟨i, h1, h2, h3, h4, h5⟩
      refine ⟨i, h1, h2, h3, h4, ?_⟩
      by_cases e : x.2 = k
      · right
        refine ⟨e, ?_⟩
        by_cases q : i < f
        · exact q
        · rw [e] at h3 h4
          rw [hn i (by omega) h3] at h4
          cases h4
      · left; omega
  · have h1 := h.len
    have h2 : 2 ^ (top - k) ≤ 2 ^ 20 := Nat.pow_le_pow_right (by decide) (by omega)
    have h3 : (2 : Nat) ^ 20 = 1048576 := by decide
    rw [h3] at h2
    rw [Nat.add_mul, Nat.one_mul, Nat.add_zero]
    clear h3 hn
    omega
theorem Got.add {F : Nat → Nat → Bool} {top k f i : Nat} {L : List (Nat × Nat)} (h : Got F top k f L) (hk : k ≤ top) (hfi : f ≤ i) (hi : i < 2 ^ (top - k)) (hb : F k i = true) (hn : ∀ j, f ≤ j → j < i → F k j = false) : Got F top k (i + 1) (L ++ [(i * 2 ^ k, k)]) := by
  refine ⟨?_, fun x => ?_, ?_⟩
  · refine List.nodup_append.2 ⟨h.nodup, by simp, fun x hx y hy => ?_⟩
    rw [List.mem_singleton] at hy
    subst hy
    rintro rfl
    obtain ⟨j, h1, _, _, _, h5⟩ := (h.mem _).1 hx
    have := place_inj (k := k) h1
    omega
  · rw [List.mem_append, List.mem_singleton, h.mem]
    constructor
    · rintro (⟨j, h1, h2, h3, h4, h5⟩ | rfl)
      · exact ⟨j, h1, h2, h3, h4, by omega⟩
      · exact ⟨i, rfl, hk, hi, hb, .inr ⟨rfl, Nat.lt_succ_self _⟩⟩
    · rintro ⟨j, h1, h2, h3, h4, h5⟩
      by_cases e : x.2 = k
      · by_cases q : j < f
        · exact .inl ⟨j, h1, h2, h3, h4, .inr ⟨e, q⟩⟩
        · right
          have e2 : j = i := by
            by_cases q2 : j < i
            · rw [e] at h4
              rw [hn j (by omega) q2] at h4; cases h4
            · omega
          obtain ⟨x1, x2⟩ := x
          simp only at h1 e
          rw [h1, e, e2]
      · exact .inl ⟨j, h1, h2, h3, h4, by omega⟩
  · have := h.len
    simp only [List.length_append, List.length_cons, List.length_nil]
    omega
theorem Got.done {F : Nat → Nat → Bool} {top : Nat} {L : List (Nat × Nat)} {l : List Tl} (h : Got F top (top + 1) 0 L) (hg : Good top l) (hF : FRel F top l) : (∀ x, x ∈ L ↔ x ∈ blks true 0 l) ∧ L.Pairwise (fun x y => x.1 ≠ y.1) := by
  have hm : ∀ x, x ∈ L ↔ x ∈ blks true 0 l := fun x => by
    rw [h.mem]
    constructor
    · rintro ⟨i, h1, h2, h3, h4, _⟩
      have := (hF x.2 i h2 h3).1 h4
      rw [← h1] at this
      exact this
    · intro hx
      obtain ⟨a, c, rfl, hp⟩ := blks_mem hx
      simp only [Nat.zero_add] at hp
      have hle := hg.le (x.2, true) (by simp)
      have hl := (lies_append.1 hg.lies).2.1
      simp only [Nat.zero_add] at hl
      have hM := Mid.of_good hg
      have hpl := hM.place
      rw [span_rev] at hpl
      refine ⟨span a / 2 ^ x.2, by rw [hpl.1, hp], hle, hpl.2, ?_, .inl (by simp only at hle; omega)⟩
      refine (hF x.2 _ hle hpl.2).2 ?_
      rw [hpl.1, ← hp]
      exact hx
  refine ⟨hm, ?_⟩
  have hr := blks_rise true 0 l
  refine (List.pairwise_iff_getElem.2 fun i j hi hj hij => ?_)
  have hne : L[i] ≠ L[j] := List.pairwise_iff_getElem.1 h.nodup i j hi hj hij
  have h1 := (hm L[i]).1 (List.getElem_mem hi)
  have h2 := (hm L[j]).1 (List.getElem_mem hj)
  intro e
  obtain ⟨a, c, e1, hp1⟩ := blks_mem h1
  obtain ⟨a', c', e2, hp2⟩ := blks_mem h2
  rw [e1] at e2
  obtain ⟨_, e3, _⟩ := tile_one e2 (by omega)
  injection e3 with e4 _
  exact hne (Prod.ext e e4)
end Go.Proofs.YtbadoihpbemjjaaDoor
/- The contract of Free, walked. Condition: the allocator's state is held, its tiles lie as they may. -/
namespace Go.Proofs.YtbadoihpbemjjaaDoor
open Go.RowKit Go.Maps
variable {V W w : World} {S : List (Option Addr × List Value)} {b top : Nat} {gm gw : Nat → Nat} {mu n : Nat} {F : Nat → Nat → Bool} {U : Int → Option Nat}

/-- how far a place is from the end; none: 0 -/
def measF (N : Nat) (x : Int) : Nat := if x < 0 then 0 else N - x.toNat
theorem info_parts3 {t : TypeId} {z : Value} {s b : Nat} (h : (Tryd.prog.info? t).map (fun i => (i.zero, i.size, i.bytes)) = some (some z, s, b)) : ∃ i, Tryd.prog.info? t = some i ∧ i.zero = some z ∧ i.size = s ∧ i.bytes = b := info_parts h
set_option maxRecDepth 100000 in
set_option maxHeartbeats 3200000 in
theorem free_b (h : BSt V W S w b top gm gw mu n F U) (hT : TabZ W) (l : List Tl) (hg : Good top l) (hF : FRel F top l) :
    Calls Tryd.prog 13 #[.pointer (some ⟨b, 0, none⟩)] w fun e w' => ∃ A m cap, e = .returned (.slice A m cap) ∧ m = (blks true 0 l).length ∧ HeldS w' (A, bCells (blks true 0 l)) ∧ Below w.heap.size w w' := by
  obtain ⟨i0, hi0, hz0, hz1, hz2⟩ := info_parts info_blk
  have H := Lib.hid h
  have ht := h.tle
  have HT := Lib.hid hT
  have HG := Lib.hid hg
  have HF := Lib.hid hF
  obtain ⟨T, hTT⟩ : ∃ T : Int, (top : Int) = T := ⟨_, rfl⟩
  have HTT := Lib.hid hTT
  clear h hT hg hF hTT
  go_enter Tryd.func13, Tryd.ntmps13
  go_wp2
  go_loopw [3, 4] (fun o k wr => ∃ (j m : Nat) (A : Option Addr) (cap : Nat) (L : List (Nat × Nat)), k = .int .i64 (j : Int) ∧ j ≤ top + 1 ∧ o = .slice A m cap ∧ L.length = m ∧ wr.ownsRow w.heap.size 86 2 (.slice A m cap) m (bCells L) ∧ Got F top j 0 L ∧ Below w.heap.size w wr) (fun _ k _ => top + 1 - (intOf k).toNat)
  case atStart => exact ⟨0, 0, none, 0, [], rfl, by omega, rfl, rfl, World.ownsRow_nil _ _ _ _, Got.start F top, Below.refl _ _⟩
  case round =>
    obtain ⟨j, m, A, cap, L, rfl, hj, rfl, hL, hown, hgot, hb⟩ := hrel
    have HO := Lib.hid hown
    have HL := Lib.hid hL
    have HGo := Lib.hid hgot
    have HB := Lib.hid hb
    have hS := H.out.below hb
    have c0 := hS.c0
    rw [HTT.out] at c0
    have HS := Lib.hid hS
    by_cases q : j ≤ top
    · have q1 : decide ((j : Int) ≤ T) = true := decide_eq_true (by have := HTT.out; omega)
      have j0 : (0 : Int) ≤ (j : Int) := by omega
      have j1 : (j : Int) < 21 := by omega
      have c1 := hS.ck j q
      have TW : Hid (TabZ wr) := Lib.hid (HT.out.below HT.out.lt hS.way)
      clear hown hL hgot hb hS
      go_wp2_with fail
      refine (first_b HS.out TW.out j q 0 0 rfl (by omega)).mono ?_
      rintro e w' ⟨r, rfl, hr, rfl⟩
      have HR := Lib.hid hr
      clear hr
      rename World => w2
      go_wp2_with fail
      go_loopw [3, 5] (fun o i wr => ∃ (f m : Nat) (A : Option Addr) (cap : Nat) (L : List (Nat × Nat)) (r : Int), i = .int .i64 r ∧ FirstF F j (2 ^ (top - j)) f r ∧ f ≤ 2 ^ (top - j) ∧ o = .slice A m cap ∧ L.length = m ∧ wr.ownsRow w.heap.size 86 2 (.slice A m cap) m (bCells L) ∧ Got F top j f L ∧ Below w.heap.size w wr) (fun _ i _ => measF (2 ^ (top - j)) (intOf i))
      case atStart => exact ⟨0, m, A, cap, L, r, rfl, HR.out, Nat.zero_le _, rfl, HL.out, HO.out, HGo.out, HB.out⟩
      case round =>
        clear HR HO HL HGo HB HS
        obtain ⟨f, m, A, cap, L, r, rfl, hr, hf, rfl, hL, hown, hgot, hb⟩ := hrel
        have HO := Lib.hid hown
        have HL := Lib.hid hL
        have HGo := Lib.hid hgot
        have HB := Lib.hid hb
        have HFf := Lib.hid hf
        have hS := H.out.below hb
        have HS := Lib.hid hS
        have c1 := hS.ck j q
        have TW : Hid (TabZ wr) := Lib.hid (HT.out.below HT.out.lt hS.way)
        have htp : 2 ^ (top - j) ≤ 2 ^ 20 := Nat.pow_le_pow_right (by decide) (by omega)
        have HTP := Lib.hid htp
        clear hown hL hgot hb hS hf htp
        rcases hr with ⟨rfl, hn⟩ | ⟨i, rfl, hfi, hi, hbit, hn⟩
        · have HN := Lib.hid (HGo.out.next q ht HFf.out hn)
          clear hn
          go_wp2
          go_roundw
          case rel => exact ⟨j + 1, m, A, cap, L, by go_num, by omega, rfl, HL.out, HO.out, HN.out, HB.out⟩
          case measure => (try simp [intOf]) <;> omega
        · have HN := Lib.hid (HGo.out.add q hfi hi hbit hn)
          have HI := Lib.hid hi
          have p0 : decide ((0 : Int) ≤ (i : Int)) = true := decide_eq_true (by omega)
          have hil : i < 1048576 := by have := HTP.out; omega
          have HIL := Lib.hid hil
          obtain ⟨I, hI⟩ : ∃ I : Int, (i : Int) = I := ⟨_, rfl⟩
          obtain ⟨I2, hI2⟩ : ∃ I2 : Int, I * 1024 = I2 := ⟨_, rfl⟩
          obtain ⟨I3, hI3⟩ : ∃ I3 : Int, I + 1 = I3 := ⟨_, rfl⟩
          have z1 : IntKind.i64.wrap (I * 1024) = I2 := by rw [IntKind.wrap_i64]; omega
          have z2 : IntKind.i64.wrap (I + 1) = I3 := by rw [IntKind.wrap_i64]; omega
          have HIE := Lib.hid hI
          have HI3 : Hid (I3 = ((i + 1 : Nat) : Int)) := Lib.hid (by omega)
          obtain ⟨at_, hat_⟩ : ∃ at_ : Int, at_ = ((1024 * (i * 2 ^ j) : Nat) : Int) := ⟨_, rfl⟩
          have hij : i * 2 ^ j < 2 ^ top := (lt_of_mul q).1 hi
          have hij2 : 2 ^ top ≤ 2 ^ 20 := Nat.pow_le_pow_right (by decide) ht
          have z3 : IntKind.i64.wrap (I2 * 2 ^ j) = at_ := by
            have e1 : I2 * 2 ^ j = at_ := by
              rw [hat_, ← hI2, ← hI]
              push_cast
              rw [Int.mul_right_comm, Int.mul_comm]
            rw [e1, IntKind.wrap_i64]
            omega
          have hcells : bCells [(i * 2 ^ j, j)] = #[Value.int .i64 at_, .int .i64 (j : Int)].toList := by rw [hat_]; rfl
          have HC := Lib.hid hcells
          have hmb : m + 1 < 1073741824 := by
            have := HGo.out.len
            have := HL.out
            have := HFf.out
            have := HTP.out
            omega
          have HMB := Lib.hid hmb
          rw [hI] at p0
          simp only [hI]
          clear hfi hi hbit hn hil hI hI2 hI3 hij hij2 hat_ hcells hmb
          go_wp2_with (first | (at_builtin; refine wpList_app _ rfl (.tmp 36) (.tmp 43) 33 rfl w.heap.size 86 i0 _ 2 16 Tryd.underlying33 hi0 hz0 hz1 hz2 rfl (by omega) A m cap (bCells L) rfl (HO.out.alloc _) _ 1 1 (bCells [(i * 2 ^ j, j)]) rfl (by rfl) (by rw [HC.out]; exact SlR_new _ _ _) (bCells_one _) (by have := HMB.out; unfold maxLen; omega) (by have := HMB.out; omega) (by rw [World.size_alloc]; have := HB.out.size; omega) ?_; intro A3 k3 w3 hown3 hgr3 hb3; have HOW : Hid (w3.ownsRow w.heap.size 86 2 (.slice A3 (m + 1) k3) (m + 1) (bCells (L ++ [(i * 2 ^ j, j)]))) := Lib.hid (by rw [bCells_app]; exact hown3); have HB3 : Hid (Below w.heap.size w w3) := Lib.hid ((HB.out.alloc HB.out.size _).trans hb3); clear hown3 hgr3 hb3; have c9 := (H.out.below HB3.out).ck j q; clear c1) | fail)
          all_goals
            have HS3 := Lib.hid (H.out.below HB3.out)
            have TW3 : Hid (TabZ w3) := Lib.hid (HT.out.below HT.out.lt HS3.out.way)
            refine (first_b HS3.out TW3.out j q (i + 1) _ HI3.out (by have := HIL.out; omega)).mono ?_
            rintro e w' ⟨r, rfl, hr, rfl⟩
            have HR := Lib.hid hr
            clear hr c9
            go_wp2
            go_roundw
            case rel => exact ⟨i + 1, m + 1, A3, k3, L ++ [(i * 2 ^ j, j)], r, rfl, HR.out, HI.out, rfl, by rw [List.length_append, HL.out]; rfl, HOW.out, HN.out, HB3.out⟩
            case measure =>
              have := HI.out
              rw [← HIE.out]
              show measF _ r < measF _ (i : Int)
              unfold measF
              rw [if_neg (show ¬ ((i : Int) < 0) by omega)]
              rcases HR.out with ⟨rfl, _⟩ | ⟨i2, rfl, h2, h3, _⟩
              · rw [if_pos (by omega)]
                omega
              · rw [if_neg (by omega)]
                omega
    · have q1 : decide ((j : Int) ≤ T) = false := decide_eq_false (by have := HTT.out; omega)
      have e : j = top + 1 := by omega
      have hd : Got F top (top + 1) 0 L := by rw [← e]; exact hgot
      obtain ⟨d1, d2⟩ := hd.done HG.out HF.out
      have HD1 := Lib.hid d1
      have HD2 := Lib.hid d2
      have hmb : m < 1073741824 := by
        have := hgot.len
        have := HL.out
        omega
      have HMB := Lib.hid hmb
      clear hown hL hgot hb hS d1 d2 hd hmb e q
      go_wp2_with fail
      refine (sorted_b L HD2.out A cap m w.heap.size HL.out _ HO.out HB.out.size HMB.out).mono ?_
      rintro e w' ⟨M, rfl, hp, hri, hh, hb2⟩
      have hM : M = blks true 0 l := rises_eq hri (blks_rise true 0 l) fun x => by rw [hp.mem_iff]; exact HD1.out x
      have hlen : m = (blks true 0 l).length := by rw [← hM, hp.length_eq, HL.out]
      rw [hM] at hh
      have HE := Lib.hid (And.intro hlen (And.intro hh (HB.out.trans hb2)))
      clear hp hri hh hb2 hM hlen
      go_wp2
      go_ret
      exact ⟨A, m, cap, rfl, HE.out⟩
end Go.Proofs.YtbadoihpbemjjaaDoor
