/- Short names. No condition. -/
import Derived.Test.YtmlidmbehcclbaaGreatDoorProg
import Derived.WalkKit
import Derived.Lib.Hide
import Derived.OwnWalkIn
namespace Go.Proofs.YtmlidmbehcclbaaGreatDoor
open Go.RowKit
theorem Qa (w : World) (g i : Nat) (t : TypeId) (xs : Array Value) (o : Nat × Nat) (h : w.heap[g]? = some (.cells xs t o)) : w.cell? ⟨g, i, none⟩ = xs[i]? := by simp [World.cell?, h]
theorem Qb (w : World) (g i : Nat) (t : TypeId) (xs : Array Value) (h : w.heap[g]? = some (.cells xs t (0, 0))) : w.frozen? ⟨g, i, none⟩ = false := by simp [World.frozen?, h]
theorem Qd:type_of% @Lib.hid:=@Lib.hid
theorem Qe:type_of% @List.mem_cons_of_mem:=@List.mem_cons_of_mem
theorem Qf:type_of% @List.mem_cons_self:=@List.mem_cons_self
theorem Qg:type_of% @Below.refl:=@Below.refl
theorem Qi:type_of% @List.mem_append:=@List.mem_append
theorem Qj:type_of% @Nat.le_refl:=@Nat.le_refl
theorem Ql:type_of% @heap_alloc_new:=@heap_alloc_new
theorem Qm:type_of% @IntKind.wrap_i64:=@IntKind.wrap_i64
theorem Qo:type_of% @IntKind.wrap_u64:=@IntKind.wrap_u64
theorem Qq:type_of% @World.size_alloc:=@World.size_alloc
theorem Qr:type_of% @List.mem_cons:=@List.mem_cons
theorem Qs:type_of% @decide_eq_false:=@decide_eq_false
theorem Qv:type_of% @Int.eq_ofNat_of_zero_le:=@Int.eq_ofNat_of_zero_le
theorem Qw:type_of% @List.not_mem_nil:=@List.not_mem_nil
theorem Qx:type_of% @List.length_append:=@List.length_append
theorem Qy:type_of% @decide_eq_true:=@decide_eq_true
theorem Q0:type_of% @Nat.lt_of_lt_of_le:=@Nat.lt_of_lt_of_le
theorem Q7:type_of% @List.take_succ_eq_append_getElem:=@List.take_succ_eq_append_getElem
theorem Q8:type_of% @World.grownBy.refl:=@World.grownBy.refl
theorem Xa:type_of% @List.mem_singleton:=@List.mem_singleton
theorem Xb:type_of% @List.length_take:=@List.length_take
theorem Xd:type_of% @Nat.zero_le:=@Nat.zero_le
theorem Xs:type_of% @Nat.pow_le_pow_right:=@Nat.pow_le_pow_right
theorem Xu:type_of% @Option.isSome_iff_exists:=@Option.isSome_iff_exists
theorem Xx:type_of% @Nat.le_trans:=@Nat.le_trans
theorem Xy:type_of% @List.length_cons:=@List.length_cons
theorem X0:type_of% @heap_setCell_same:=@heap_setCell_same
theorem Zc:type_of% @List.getElem?_eq_getElem:=@List.getElem?_eq_getElem
theorem Zd:type_of% @List.getElem?_append_right:=@List.getElem?_append_right
theorem Zm:type_of% @List.getElem?_append_left:=@List.getElem?_append_left
theorem Zr:type_of% @List.mem_map:=@List.mem_map
theorem Zw:type_of% @Nat.pow_succ:=@Nat.pow_succ
end Go.Proofs.YtmlidmbehcclbaaGreatDoor
