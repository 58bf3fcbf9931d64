/- What an argument that is a slice of acts is in memory. No condition. -/
import Derived.Test.YtjlgkefklklphaaDoorQ1
import Derived.Test.YtjlgkefklklphaaDoorP3
namespace Go.Proofs.YtjlgkefklklphaaDoor
open Go.ChangeShapes Go.WideShapes Go.ChangeAt Go.RowKit Go.Deep

section
variable {H : Type} {enc : TypeId × Value → H} {w : World} {base : Nat} {spare : Nat → Bool} {held : Bool}
/-- an act, as four cells read -/
theorem open_act {fuel : Nat} {cs : List Value} {x : DataW H × List MemPlace} (h : DataW.trod enc Tryd.prog w base spare held fuel 29 cs = some x) :
    ∃ (on : Bool) (L : List Int) (A : Option Addr) (cap : Nat) (f g : Int), cs = [.bool on, .slice A L.length cap, .int .i64 f, .int .i64 g] ∧ SlR w A (i64s L) ∧ L.length ≤ 9223372036854775807 := by
  obtain ⟨xs, n, _, _, hc, hlen, hf⟩ := DataW.trod_struct Tryd.underlying29 h
  have hsz : cs.length = 4 := hc.trans (by kernel_rfl)
  match cs, hsz with
  | [v0, v1, v2, v3], _ =>
    have hx : xs.length = 4 := hlen
    match xs, hx with
    | [y0, y1, y2, y3], _ =>
      have c3 : Tryd.prog.cellsOf 3 = 1 := by kernel_rfl
      have c4 : Tryd.prog.cellsOf 4 = 1 := by kernel_rfl
      have c27 : Tryd.prog.cellsOf 27 = 1 := by kernel_rfl
      have h0 := hf 0 _ rfl
      have h1 := hf 1 _ rfl
      have h2 := hf 2 _ rfl
      have h3 := hf 3 _ rfl
      simp [c3, c4, c27] at h0 h1 h2 h3
      obtain ⟨on, e0, _⟩ := DataW.trod_bool Tryd.underlying4 (h0.trans rfl)
      obtain ⟨L, A, cap, e1, _, hL, hs⟩ := open_nums (v := v1) (h1.trans rfl)
      obtain ⟨f, e2, _, _⟩ := DataW.trod_int Tryd.underlying3 (h2.trans rfl)
      obtain ⟨g, e3, _, _⟩ := DataW.trod_int Tryd.underlying3 (h3.trans rfl)
      simp at e0 e2 e3
      exact ⟨on, L, A, cap, f, g, by simp [e0, e1, e2, e3], hs, hL⟩

/-- a slice of acts -/
theorem open_acts {fuel : Nat} {v : Value} {x : DataW H × List MemPlace} (h : DataW.trod enc Tryd.prog w base spare held fuel 23 [v] = some x) :
    ∃ (m : Nat) (A : Option Addr) (cap : Nat), v = .slice A m cap ∧ ActsR w A m := by
  rcases open_slice Tryd.underlying23 h with ⟨hcs, _⟩ | ⟨a, len, cap, m, n, D, Pl, hcs, _, hl, hm, hmm, _, hi⟩
  · injection hcs with hv
    exact ⟨0, none, 0, hv, fun k hk => by omega⟩
  · injection hcs with hv
    have hlm : len ≤ m := by rw [hmm]; split <;> omega
    have c4 : Tryd.prog.cellsOf 29 = 4 := by kernel_rfl
    refine ⟨len, some a, cap, hv, fun k hk => ?_⟩
    have each : ∀ i, i < len → ∃ (on : Bool) (L : List Int) (A : Option Addr) (cap : Nat), w.cell? (a.add (i * 4)) = some (.bool on) ∧ w.cell? (a.add (i * 4 + 1)) = some (.slice A L.length cap) ∧ SlR w A (i64s L) ∧ L.length ≤ 9223372036854775807 := by
      intro i hil
      obtain ⟨cs', hc, ht⟩ := hi i (by omega)
      rw [c4] at hc
      obtain ⟨on, L, A, cp, f, g, rfl, hs, hL⟩ := open_act ht
      obtain ⟨_, _, hat⟩ := World.cells?_some hc
      refine ⟨on, L, A, cp, ?_, ?_, hs, hL⟩
      · have := hat 0 (by omega)
        rw [Go.Deep.add_add] at this
        exact this
      · have := hat 1 (by omega)
        rw [Go.Deep.add_add] at this
        exact this
    obtain ⟨on, L, A, cp, h0, h1, hs, hL⟩ := each k hk
    obtain ⟨on0, L0, A0, cp0, h00, _, _, _⟩ := each 0 (by omega)
    obtain ⟨ea, hb⟩ := addr_of_cell h00
    have ea' : a = ⟨a.block, a.off, none⟩ := by
      obtain ⟨b, o, s⟩ := a
      simpa [Addr.add] using ea
    refine ⟨a.block, a.off, by rw [← ea'], by simpa [Addr.add] using hb, on, L, A, cp, ?_, ?_, hs, hL⟩
    · rw [ea', add_off] at h0; exact h0
    · rw [ea', add_off] at h1; exact h1
end
end Go.Proofs.YtjlgkefklklphaaDoor
