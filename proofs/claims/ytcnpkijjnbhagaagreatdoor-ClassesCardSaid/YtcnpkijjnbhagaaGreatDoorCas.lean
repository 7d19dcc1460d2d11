/- errors.As of an error of errors.New's make, at a target of another type, walked. -/
import Derived.Test.YtcnpkijjnbhagaaGreatDoorCerr
import Derived.Handy
namespace Go.Proofs.YtcnpkijjnbhagaaGreatDoor
open Go.RowKit Go.Extern.Stop Go.Stop Go.Extern

/-- A type's handle. -/
def hd (t : Nat) : Value := .agg #[.pointer (some ⟨10, t, none⟩)]
theorem ex_valueOf (p : Addr) (w : World) : (callFunc 65 #[.iface 81 (.pointer (some p))]).run Tryz.prog w = .ok (.value (.agg #[.pointer (some ⟨10, 81, none⟩), .pointer (some ⟨w.heap.size, 0, none⟩), .int .u64 150])) (w.alloc (.cells #[.pointer (some p)] 81)) := by kernel_rfl
theorem ex_type (h : Nat) (w : World) : (callFunc 66 #[.agg #[.pointer (some ⟨10, 81, none⟩), .pointer (some ⟨h, 0, none⟩), .int .u64 150]]).run Tryz.prog w = .ok (.value (.iface 201 (.agg #[.pointer (some ⟨10, 81, none⟩)]))) w := by kernel_rfl
theorem ex_kind81 (w : World) : (callFunc 177 #[.pointer (some ⟨10, 81, none⟩)]).run Tryz.prog w = .ok (.value (.int .u8 22)) w := by kernel_rfl
theorem ex_kind79 (w : World) : (callFunc 177 #[.pointer (some ⟨10, 79, none⟩)]).run Tryz.prog w = .ok (.value (.int .u8 22)) w := by kernel_rfl
theorem ex_elem (w : World) : (callFunc 188 #[.agg #[.pointer (some ⟨10, 81, none⟩)]]).run Tryz.prog w = .ok (.value (.iface 201 (.agg #[.pointer (some ⟨10, 79, none⟩)]))) w := by kernel_rfl
theorem ex_implements (w : World) : (callFunc 189 #[.agg #[.pointer (some ⟨10, 79, none⟩)], .iface 201 (.agg #[.pointer (some ⟨10, 42, none⟩)])]).run Tryz.prog w = .ok (.value (.bool true)) w := by kernel_rfl
theorem ex_typeOf (v : Value) (w : World) : (callFunc 69 #[.iface 268 v]).run Tryz.prog w = .ok (.value (.iface 201 (.agg #[.pointer (some ⟨10, 268, none⟩)]))) w := by kernel_rfl
theorem ex_assignable (w : World) : (callFunc 186 #[.agg #[.pointer (some ⟨10, 268, none⟩)], .iface 201 (.agg #[.pointer (some ⟨10, 79, none⟩)])]).run Tryz.prog w = .ok (.value (.bool false)) w := by kernel_rfl
theorem mt_kind (t : Nat) (w : World) : (Go.method 427 201 (.agg #[.pointer (some ⟨10, t, none⟩)]) "Kind").run Tryz.prog w = .ok (177, .pointer (some ⟨10, t, none⟩)) w := by kernel_rfl
theorem mt_elem (t : Nat) (w : World) : (Go.method 427 201 (.agg #[.pointer (some ⟨10, t, none⟩)]) "Elem").run Tryz.prog w = .ok (188, .agg #[.pointer (some ⟨10, t, none⟩)]) w := by kernel_rfl
theorem mt_implements (t : Nat) (w : World) : (Go.method 427 201 (.agg #[.pointer (some ⟨10, t, none⟩)]) "Implements").run Tryz.prog w = .ok (189, .agg #[.pointer (some ⟨10, t, none⟩)]) w := by kernel_rfl
theorem mt_assignable (t : Nat) (w : World) : (Go.method 427 201 (.agg #[.pointer (some ⟨10, t, none⟩)]) "AssignableTo").run Tryz.prog w = .ok (186, .agg #[.pointer (some ⟨10, t, none⟩)]) w := by kernel_rfl
set_option maxRecDepth 100000 in
theorem ex_isNil (h : Nat) (p : Addr) (w : World) (hc : w.cell? ⟨h, 0, none⟩ = some (.pointer (some p))) : (callFunc 67 #[.agg #[.pointer (some ⟨10, 81, none⟩), .pointer (some ⟨h, 0, none⟩), .int .u64 150]]).run Tryz.prog w = .ok (.value (.bool false)) w := by
  have h1 := @run_callFunc_extern Tryz.prog 67 _ (Extern.ReflectliteValue.method (Extern.ReflectliteValue.valueError "reflectlite.Value.IsNil" 0) Extern.ReflectliteValue.isNil) Tryz.func67 (by kernel_rfl) (by kernel_rfl) (by kernel_rfl) (by kernel_rfl)
  rw [h1]
  have h2 : (Extern.ReflectliteValue.parts (.agg #[.pointer (some ⟨10, 81, none⟩), .pointer (some ⟨h, 0, none⟩), .int .u64 150])).run Tryz.prog w = .ok (some (81, ⟨h, 0, none⟩, 150)) w := by kernel_rfl
  have h3 : (loadVar 81 ⟨h, 0, none⟩).run Tryz.prog w = .ok (.pointer (some p)) w := by
    simp [go_sem, loadVar, hc]
  have h4 : (Extern.ReflectliteValue.isNil 81 ⟨h, 0, none⟩ 150 22).run Tryz.prog w = .ok (.bool false) w := by
    unfold Extern.ReflectliteValue.isNil
    simp [Sem.run_bind, h3, Result.andThen]
  have h5 : (Extern.ReflectliteValue.method (Extern.ReflectliteValue.valueError "reflectlite.Value.IsNil" 0) Extern.ReflectliteValue.isNil #[.agg #[.pointer (some ⟨10, 81, none⟩), .pointer (some ⟨h, 0, none⟩), .int .u64 150]]).run Tryz.prog w = .ok (.bool false) w := by
    show (Extern.ReflectliteValue.parts (.agg #[.pointer (some ⟨10, 81, none⟩), .pointer (some ⟨h, 0, none⟩), .int .u64 150]) >>= _).run Tryz.prog w = _
    rw [Sem.run_bind, h2]
    exact h4
  rw [h5]
  rfl
set_option maxHeartbeats 1000000 in
set_option maxRecDepth 100000 in
theorem asx_other (a : Addr) (tv vv : Value) (w : World) :
    Calls Tryz.prog 68 #[.iface 268 (.pointer (some a)), tv, .agg #[.pointer (some ⟨10, 81, none⟩), vv, .int .u64 150], .iface 201 (.agg #[.pointer (some ⟨10, 79, none⟩)])] w fun e w' => e = .returned (.bool false) ∧ Below w.heap.size w w' := by
  have x1 := ex_typeOf
  have x2 := ex_assignable
  have m1 := mt_assignable
  have nA := Tryz.noAsE
  have uE := Tryz.noUnwrapE
  have vE := Tryz.noUnwrapsE
  go_enter Tryz.func68, Tryz.ntmps68
  go_wp2
  refine wp_loop_rounds 1 ?_
  rw [rounds_succ]
  go_wp2
  go_ret
  exact ⟨rfl, (Below.refl _ _).alloc (Nat.le_refl _) _⟩
set_option maxHeartbeats 1000000 in
set_option maxRecDepth 100000 in
theorem as_other (a : Addr) (tb : Nat) (w : World) (he : w.cell? ⟨4, 0, none⟩ = some (.iface 201 (.agg #[.pointer (some ⟨10, 42, none⟩)]))) :
    Calls Tryz.prog 38 #[.iface 268 (.pointer (some a)), .iface 81 (.pointer (some ⟨tb, 0, none⟩))] w fun e w' => e = .returned (.bool false) ∧ Below w.heap.size w w' := by
  have x0 := ex_valueOf
  have x1 := ex_type
  have x2 := ex_kind81
  have x3 := ex_kind79
  have x4 := ex_elem
  have x5 := ex_implements
  have x6 := ex_isNil
  have m1 := mt_kind
  have m2 := mt_elem
  have m3 := mt_implements
  have hel : 4 < w.heap.size := World.block_lt_of_cell? w ⟨4, 0, none⟩ he
  go_enter Tryz.func38, Tryz.ntmps38
  go_wp2_with fail
  refine (asx_other a _ _ _).mono ?_
  rintro e w1 ⟨rfl, hB⟩
  go_wp2
  go_ret
  exact ⟨rfl, (((Below.refl w.heap.size w).alloc (Nat.le_refl _) _).alloc (by simp) _).trans (hB.mono (by simp; omega))⟩
end Go.Proofs.YtcnpkijjnbhagaaGreatDoor
