/- Has. Condition: the cache's state. -/
import Derived.Test.YtbadoihpbemjjaaDoorTA
namespace Go.Proofs.YtbadoihpbemjjaaDoor
open Go.RowKit Go.Maps
variable {W w w' : World} {K : List (Nat × Obj)} {c b size M top : Nat} {gm gw : Nat → Nat} {mu n : Nat} {l : List Tl} {A : Option Addr} {cap : Nat} {P : List Pg}

theorem spot_yes2 (h : SGx W K w c b size M top gm gw mu n l A cap P) (hl : P.length ≤ 1048576) (hs : 0 < size) (hs2 : size ≤ 512) (hM : M = 960 / size) (hq : ∀ x ∈ P, x.q < 1048576) (X : Int) (hX : X ∈ usedC M size P) :
    ∃ k j : Nat, Calls Tryd.prog 39 #[.pointer (some ⟨c, 0, none⟩), .int .i64 X] w fun e w' => e = .returned (.tuple #[.int .i64 (k : Int), .int .i64 (j : Int), .bool true]) ∧ Below w.heap.size w w' := by
  obtain ⟨p, hp, j, hj, hb, hx⟩ := mem_usedC.1 hX
  obtain ⟨P1, P2, hP⟩ := List.append_of_mem hp
  exact ⟨_, j, spot_yes h hl hs hs2 hM P1 P2 p hP (hq p hp) j hj hb X hx _ rfl⟩
set_option maxRecDepth 100000 in
theorem has_yes (h : SGx W K w c b size M top gm gw mu n l A cap P) (hl : P.length ≤ 1048576) (hs : 0 < size) (hs2 : size ≤ 512) (hM : M = 960 / size) (hq : ∀ x ∈ P, x.q < 1048576) (X : Int) (hX : X ∈ usedC M size P) :
    Calls Tryd.prog 19 #[.pointer (some ⟨c, 0, none⟩), .int .i64 X] w fun e w' => e = .returned (.bool true) ∧ Below w.heap.size w w' := by
  obtain ⟨k, j, hc⟩ := spot_yes2 h hl hs hs2 hM hq X hX
  have HC := Lib.hid hc
  clear hc h hX hq hM hs hs2 hl
  go_enter Tryd.func19, Tryd.ntmps19
  go_wp2_with fail
  refine HC.out.mono ?_
  rintro e w2 ⟨rfl, h2⟩
  go_wp2
  go_ret
  exact ⟨rfl, h2⟩
set_option maxRecDepth 100000 in
theorem has_no (h : SGx W K w c b size M top gm gw mu n l A cap P) (hl : P.length ≤ 1048576) (hs : 0 < size) (hs2 : size ≤ 512) (X : Int) (hX : (Lit.int .i64 X).wf = true) (hno : X ∉ usedC M size P) :
    Calls Tryd.prog 19 #[.pointer (some ⟨c, 0, none⟩), .int .i64 X] w fun e w' => e = .returned (.bool false) ∧ Below w.heap.size w w' := by
  have hc := spot_no h hl hs hs2 X hX hno
  have HC := Lib.hid hc
  clear hc h hX hno hs hs2 hl
  go_enter Tryd.func19, Tryd.ntmps19
  go_wp2_with fail
  refine HC.out.mono ?_
  rintro e w2 ⟨rfl, h2⟩
  go_wp2
  go_ret
  exact ⟨rfl, h2⟩
end Go.Proofs.YtbadoihpbemjjaaDoor
