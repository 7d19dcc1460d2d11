/- The law Names: its walk. The three errors are three different pointers, so every comparison answers 'different'. -/
import Derived.Test.YtcnpkijjnbhagaaDoorRows
import Derived.WalkKit
import Derived.WalkSpells
import Derived.WalkLawsBesides
import Derived.LaidEql
import Derived.Deep.QuietTactic
import Derived.BigQuiet
namespace Go.Proofs.YtcnpkijjnbhagaaDoor
open Go.RowKit

theorem Tryd.comp25 : (Tryd.prog.info? 25).map (·.comparable) = some true := by kernel_rfl
theorem Tryd.size43 : (Tryd.prog.info? 43).map (·.size) = some 1 := by kernel_rfl

theorem neq_of_eql {P : Program} {w : World} {t : TypeId} {x y : Value} {tx ty : TypeId} {a b : Value} (hx : x = .iface tx a) (hy : y = .iface ty b) {r : Bool}
    (h : (binOp .eql t x y).run P w = .ok (.bool r) w) : (binOp .neq t x y).run P w = .ok (.bool (!r)) w := by
  subst hx; subst hy
  simp only [binOp] at h ⊢
  simp only [Sem.run_bind] at h ⊢
  cases he : (Op.equal t (.iface tx a) (.iface ty b)).run P w with
  | ok z w' => rw [he] at h; simp at h ⊢; exact h
  | halt z w' => rw [he] at h; simp at h

set_option maxHeartbeats 1000000 in
theorem different_true (a0 a1 a2 : Addr) (c0 c1 c2 : Array Value) (t0 t1 t2 : TypeId) (w : World)
    (h0 : w.cell? ⟨0, 0, none⟩ = some (.iface 25 (.pointer (some a0)))) (h1 : w.cell? ⟨1, 0, none⟩ = some (.iface 25 (.pointer (some a1)))) (h2 : w.cell? ⟨2, 0, none⟩ = some (.iface 25 (.pointer (some a2))))
    (n01 : a0 ≠ a1) (n12 : a1 ≠ a2) (n02 : a0 ≠ a2)
    (b0 : w.heap[a0.block]? = some (.cells c0 t0 (0, 0))) (b1 : w.heap[a1.block]? = some (.cells c1 t1 (0, 0))) (b2 : w.heap[a2.block]? = some (.cells c2 t2 (0, 0))) :
    Calls Tryd.prog 4 #[] w fun e w' => e = .returned (.bool true) ∧ w' = w := by
  obtain ⟨i, hi, hcmp⟩ := Option.map_eq_some_iff.1 Tryd.comp25
  obtain ⟨j, hj, hjs⟩ := Option.map_eq_some_iff.1 Tryd.size43
  have hz : j.size ≠ 0 := by rw [hjs]; decide
  have e01 : (binOp .neq 24 (.iface 25 (.pointer (some a0))) (.iface 25 (.pointer (some a1)))).run Tryd.prog w = .ok (.bool true) w :=
    neq_of_eql rfl rfl (run_eql_iface_ptr_other w Tryd.underlying24 Tryd.underlying25 hi hcmp hj hz n01 b0 b1)
  have e12 : (binOp .neq 24 (.iface 25 (.pointer (some a1))) (.iface 25 (.pointer (some a2)))).run Tryd.prog w = .ok (.bool true) w :=
    neq_of_eql rfl rfl (run_eql_iface_ptr_other w Tryd.underlying24 Tryd.underlying25 hi hcmp hj hz n12 b1 b2)
  have e02 : (binOp .neq 24 (.iface 25 (.pointer (some a0))) (.iface 25 (.pointer (some a2)))).run Tryd.prog w = .ok (.bool true) w :=
    neq_of_eql rfl rfl (run_eql_iface_ptr_other w Tryd.underlying24 Tryd.underlying25 hi hcmp hj hz n02 b0 b2)
  clear b0 b1 b2 n01 n12 n02 hz hjs hcmp hj hi
  go_enter Tryd.func4, Tryd.ntmps4
  go_wp2
  go_ret
  exact ⟨rfl, rfl⟩

theorem names_true (a0 a1 a2 : Addr) (c0 c1 c2 : Array Value) (t0 t1 t2 : TypeId) (w : World)
    (h0 : w.cell? ⟨0, 0, none⟩ = some (.iface 25 (.pointer (some a0)))) (h1 : w.cell? ⟨1, 0, none⟩ = some (.iface 25 (.pointer (some a1)))) (h2 : w.cell? ⟨2, 0, none⟩ = some (.iface 25 (.pointer (some a2))))
    (n01 : a0 ≠ a1) (n12 : a1 ≠ a2) (n02 : a0 ≠ a2)
    (b0 : w.heap[a0.block]? = some (.cells c0 t0 (0, 0))) (b1 : w.heap[a1.block]? = some (.cells c1 t1 (0, 0))) (b2 : w.heap[a2.block]? = some (.cells c2 t2 (0, 0))) :
    Calls Tryd.prog 3 #[] w fun e w' => e = .returned (.bool true) ∧ w' = w := by
  have hd := different_true a0 a1 a2 c0 c1 c2 t0 t1 t2 w h0 h1 h2 n01 n12 n02 b0 b1 b2
  clear h0 h1 h2 b0 b1 b2 n01 n12 n02
  go_enter Tryd.func3, Tryd.ntmps3
  go_wp2_with (go_at_call 4; refine hd.mono ?_; rintro e w' ⟨rfl, rfl⟩)
  go_ret
  exact ⟨rfl, rfl⟩
end Go.Proofs.YtcnpkijjnbhagaaDoor
