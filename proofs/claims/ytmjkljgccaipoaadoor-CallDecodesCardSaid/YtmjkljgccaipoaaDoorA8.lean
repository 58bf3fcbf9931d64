/- Laws for Decode: fields of a word, whole structs stored and handed back, slices cut; what Decode hands back. No condition. -/
import Derived.Test.YtmjkljgccaipoaaDoorA5
import Derived.Test.YtmjkljgccaipoaaDoorA7
namespace Go.Proofs.YtmjkljgccaipoaaDoor
open Go.RowKit

theorem get_r (at_ many r : Int) (k m x : Nat) (w : World) (hk : at_ = (k : Int)) (hm : many = (m : Int)) (h64 : k ≤ 63) (h62 : m ≤ 62) (hx : x < 18446744073709551616) (hr : r = ((x / 2 ^ k % 2 ^ m : Nat) : Int)) :
    Calls Tryd.prog 30 #[.agg #[.int .u64 at_, .int .u64 many], .int .u64 (x : Int)] w fun e w' => e = .returned (.int .i64 r) ∧ Below w.heap.size w w' := by
  subst hk hm hr
  have := get_any k m x w h62 hx
  rw [Nat.min_eq_left (by omega)] at this
  exact this

/-- a struct in memory and a number, handed back -/
theorem ret_cell_tmp {P : Program} {fn : Func} {R : Ending → World → Prop} {a : Act} {w : World} {p u : Tmp} {ty t : TypeId} {g : Nat} {cs : Array Value} {fr : Nat × Nat} {d : TypeDesc} (h : fn.results = #[.cell p ty, .tmp u])
    (hp : a.tmps.getD p undef = .pointer (some ⟨g, 0, none⟩)) (hg : w.heap[g]? = some (.cells cs t fr)) (hu : P.underlying ty = some d) (hd : (match d with | .struct _ | .array _ _ => true | _ => false) = true)
    (hi : (P.info? ty).map (·.size) = some cs.size) (hdf : a.defers = []) (hR : R (.returned (.tuple #[.agg cs, a.tmps.getD u undef])) w) : bodyPost P fn R .ret a w := by
  refine bodyPost_ret ?_ hdf hR
  rw [results_cell_tmp h, hp]
  simp [asAddr, run_loadVar_row w g t ty cs fr d hg hu hd hi, Result.andThen]

/-- a whole struct stored over one that is known whole -/
theorem wpList_store_whole {P : Program} {ops : Array Oper} {rest : List Oper} {o : Oper} {a : Act} {w : World} {Q : Exit → Act → World → Prop} (ty : TypeId) (hgd : o.guard = none) (x y : Operand) (ho : o.op = .store ty x y)
    (g : Nat) (cells : Array Value) (hx : a.eval x = .pointer (some ⟨g, 0, none⟩)) (hy : a.eval y = .agg cells)
    (t : TypeId) (old : Array Value) (hg : w.heap[g]? = some (.cells old t (0, 0))) (hi : (P.info? ty).map (·.size) = some cells.size)
    (hold : old.size = cells.size) (h1 : cells.all (·.oneCell') = true)
    (h : ∀ w', w'.heap[g]? = some (.cells cells t (0, 0)) → w.grownBy w' (some g) → wpList P ops Q rest (a.put o.dst undef) w') : wpList P ops Q (o :: rest) a w := by
  refine wpList_store_row hgd ty x y ho g cells hx hy t old hg hi hold h1 (h _ (setRow_heap w g old cells t (0, 0) hg) ⟨rfl, rfl, rfl, by simp [World.setRow], fun k hk hne => setRow_other w g k cells (fun e => hne (by rw [e]))⟩)

theorem grownBy_below {w w' : World} {g B : Nat} (h : w.grownBy w' (some g)) (hB : B ≤ g) (hs : B ≤ w.heap.size) : Below B w w' :=
  ⟨h.os, h.tape, h.output, h.size, fun k hk => h.block k (by omega) (fun e => by injection e with e; omega)⟩

/-- where a slice that is cut ahead begins -/
def cutA (A : Option Addr) (cap k : Nat) : Option Addr := if cap = k then A else A.map (·.add k)

theorem run_slice_lo_hi (P : Program) (T E : TypeId) (hT : P.underlying T = some (.slice E)) (hE : (P.info? E).map (·.size) = some 1) (A : Option Addr) (n cap lo hi : Nat) (l h : Int) (el : l = (lo : Int)) (eh : h = (hi : Int)) (h1 : lo ≤ hi) (h2 : hi ≤ cap) (w : World) :
    (Instr.slice T (.slice A n cap) (some (.int .i64 l)) (some (.int .i64 h)) none).run P w = .ok (.slice (cutA A cap lo) (hi - lo) (cap - lo)) w := by
  subst el eh
  cases hq : P.info? E with
  | none => simp [hq] at hE
  | some i =>
    have hs : i.size = 1 := by simpa [hq] using hE
    have e1 : P.elem T = E := by simp [Program.elem, hT]
    have := run_slice_lh (P := P) (w := w) (t := T) (a := A) (len := n) (cap := cap) (ht := by rw [e1]; exact hT) .i64 .i64 (lo : Int) (hi : Int) (by omega) (by omega) (by omega)
    rw [this]
    simp [sizeOf, typeInfo, e1, hq, hs, sliced, cutA, Result.andThen]

theorem run_slice_lo (P : Program) (T E : TypeId) (hT : P.underlying T = some (.slice E)) (hE : (P.info? E).map (·.size) = some 1) (A : Option Addr) (n cap lo : Nat) (l : Int) (el : l = (lo : Int)) (h1 : lo ≤ n) (w : World) :
    (Instr.slice T (.slice A n cap) (some (.int .i64 l)) none none).run P w = .ok (.slice (cutA A cap lo) (n - lo) (cap - lo)) w := by
  subst el
  cases hq : P.info? E with
  | none => simp [hq] at hE
  | some i =>
    have hs : i.size = 1 := by simpa [hq] using hE
    have e1 : P.elem T = E := by simp [Program.elem, hT]
    have := run_slice_l (P := P) (w := w) (t := T) (a := A) (len := n) (cap := cap) (ht := by rw [e1]; exact hT) .i64 (lo : Int) (by omega) (by omega)
    rw [this]
    simp [sizeOf, typeInfo, e1, hq, hs, sliced, cutA, Result.andThen]

theorem SlR.cut {w : World} {A : Option Addr} {xs : List Value} {cap k : Nat} (h : SlR w A xs) (hc : xs.length ≤ cap) : SlR w (cutA A cap k) (xs.drop k) := fun hne => by
  have hlt : k < xs.length := by
    rcases Nat.lt_or_ge k xs.length with h1 | h1
    · exact h1
    · exact absurd (List.drop_eq_nil_of_le h1) hne
  obtain ⟨b, off, rfl, hb, hcell⟩ := h (fun e => by rw [e] at hlt; simp at hlt)
  refine ⟨b, off + k, ?_, hb, fun j u hu => ?_⟩
  · unfold cutA
    rw [if_neg (by omega)]
    have hadd : (⟨b, off, none⟩ : Addr).add k = ⟨b, off + k, none⟩ := by unfold Addr.add; split <;> simp_all
    simp [hadd]
  · rw [List.getElem?_drop] at hu
    have := hcell (k + j) u hu
    rw [Nat.add_assoc]
    exact this
theorem SlR.take {w : World} {A : Option Addr} {xs : List Value} (h : SlR w A xs) (k : Nat) : SlR w A (xs.take k) := fun hne => by
  obtain ⟨b, off, e, hb, hc⟩ := h (fun e => by rw [e] at hne; simp at hne)
  refine ⟨b, off, e, hb, fun j u hu => hc j u ?_⟩
  rw [List.getElem?_take] at hu
  split at hu
  · exact hu
  · cases hu
theorem SlR.nil (w : World) (A : Option Addr) : SlR w A [] := fun h => absurd rfl h

theorem SlR_new2 (w : World) (o : Obj) (cs : Array Value) (t : TypeId) : SlR ((w.alloc o).alloc (.cells cs t)) (some ⟨w.heap.size + 1, 0, none⟩) cs.toList := by
  have := SlR_new (w.alloc o) cs t
  rwa [World.size_alloc] at this

/-! ## what Decode hands back -/
def decR (l : List Nat) : Cal × Int := match decC l with | some c => (c, 0) | none => (zeroC, 1)
def DecPost (w : World) (l : List Nat) (e : Ending) (w' : World) : Prop :=
  ∃ A cw B ci, e = .returned (.tuple #[.agg #[.int .i64 (decR l).1.op, .int .i64 (decR l).1.slot, .int .i64 (decR l).1.a, .int .i64 (decR l).1.b, .int .i64 (decR l).1.c, .bool (decR l).1.flag, .int .u64 ((decR l).1.x : Int), .slice A (decR l).1.words.length cw, .slice B (decR l).1.items.length ci], .int .i64 (decR l).2]) ∧
    SlR w' A (u64s (decR l).1.words) ∧ SlR w' B (itemCells (decR l).1.items) ∧ Below w.heap.size w w'
def zeroV : Array Value := #[.int .i64 0, .int .i64 0, .int .i64 0, .int .i64 0, .int .i64 0, .bool false, .int .u64 0, .slice none 0 0, .slice none 0 0]
theorem DecPost_none {w : World} {l : List Nat} {w' : World} (h : decC l = none) (hb : Below w.heap.size w w') : DecPost w l (.returned (.tuple #[.agg zeroV, .int .i64 1])) w' := by
  have e : decR l = (zeroC, 1) := by simp [decR, h]
  refine ⟨none, 0, none, 0, ?_, ?_, ?_, hb⟩ <;> rw [e]
  · rfl
  · exact SlR.nil _ _
  · exact SlR.nil _ _
theorem DecPost_some {w : World} {l : List Nat} {c : Cal} {w' : World} {A B : Option Addr} {cw ci : Nat} (h : decC l = some c) (hA : SlR w' A (u64s c.words)) (hB : SlR w' B (itemCells c.items)) (hb : Below w.heap.size w w') :
    DecPost w l (.returned (.tuple #[.agg #[.int .i64 c.op, .int .i64 c.slot, .int .i64 c.a, .int .i64 c.b, .int .i64 c.c, .bool c.flag, .int .u64 (c.x : Int), .slice A c.words.length cw, .slice B c.items.length ci], .int .i64 0])) w' := by
  have e : decR l = (c, 0) := by simp [decR, h]
  refine ⟨A, cw, B, ci, ?_, ?_, ?_, hb⟩ <;> rw [e]
  · exact hA
  · exact hB

theorem decode_short (l : List Nat) (A : Option Addr) (cap : Nat) (w : World) (h : l.length < 2) :
    Calls Tryd.prog 17 #[.slice A l.length cap] w (DecPost w l) := by
  have hd : decC l = none := by
    match l, h with
    | [], _ => rfl
    | [x], _ => rfl
    | x :: y :: r, h => simp at h; omega
  have Hd := Lib.hid hd
  clear hd
  go_enter Tryd.func17, Tryd.ntmps17
  go_wp2
  exact ret_cell_tmp Tryd.results17 rfl (heap_alloc_new w _) Tryd.underlying26 rfl (by as_aux_lemma => kernel_rfl) rfl (DecPost_none Hd.out ((Below.refl _ _).alloc (Nat.le_refl _) _))
end Go.Proofs.YtmjkljgccaipoaaDoor
