/- The errors as numbers, walked. -/
import Derived.Test.YtcnpkijjnbhagaaGreatDoorCas
import Derived.Test.YtcnpkijjnbhagaaGreatDoorCgc
import Derived.Laws.ResultCell
namespace Go.Proofs.YtcnpkijjnbhagaaGreatDoor
open Go.RowKit Go.Lib

/-- The three errors as they lie. -/
structure Sent (W : World) (a0 a1 a2 : Addr) : Prop where
  g0 : W.cell? ⟨0, 0, none⟩ = some (.iface 268 (.pointer (some a0)))
  g1 : W.cell? ⟨1, 0, none⟩ = some (.iface 268 (.pointer (some a1)))
  g2 : W.cell? ⟨2, 0, none⟩ = some (.iface 268 (.pointer (some a2)))
  ge : W.cell? ⟨4, 0, none⟩ = some (.iface 201 (.agg #[.pointer (some ⟨10, 42, none⟩)]))
  n01 : a0 ≠ a1
  n12 : a1 ≠ a2
  n02 : a0 ≠ a2
  r0 : ∃ c t, W.heap[a0.block]? = some (.cells c t (0, 0))
  r1 : ∃ c t, W.heap[a1.block]? = some (.cells c t (0, 0))
  r2 : ∃ c t, W.heap[a2.block]? = some (.cells c t (0, 0))
theorem heap_lt {W : World} {b : Nat} {o : Obj} (h : W.heap[b]? = some o) : b < W.heap.size := (Array.getElem?_eq_some_iff.1 h).1
theorem Sent.below {W W' : World} {a0 a1 a2 : Addr} (h : Sent W a0 a1 a2) {B : Nat} (hb : Below B W W') (hB : W.heap.size ≤ B) : Sent W' a0 a1 a2 := by
  have kc := fun (p : Addr) (u : Value) (hp : W.cell? p = some u) => (hb.cell (Nat.lt_of_lt_of_le (World.block_lt_of_cell? W p hp) hB)).trans hp
  have kr := fun (b : Nat) (h : ∃ c t, W.heap[b]? = some (.cells c t (0, 0))) => (show ∃ c t, W'.heap[b]? = some (.cells c t (0, 0)) by
    obtain ⟨c, t, h⟩ := h
    exact ⟨c, t, (hb.block b (Nat.lt_of_lt_of_le (heap_lt h) hB)).trans h⟩)
  exact ⟨kc _ _ h.g0, kc _ _ h.g1, kc _ _ h.g2, kc _ _ h.ge, h.n01, h.n12, h.n02, kr _ h.r0, kr _ h.r1, kr _ h.r2⟩
def FtPost (k : Nat) (W : World) (e : Ending) (w' : World) : Prop := e = .returned (fv k) ∧ Below W.heap.size W w'
theorem heap3 (W : World) (o1 o2 o3 : Obj) : (((W.alloc o1).alloc o2).alloc o3).heap[W.heap.size]? = some o1 ∧ (((W.alloc o1).alloc o2).alloc o3).heap[W.heap.size + 1]? = some o2 := by
  constructor
  · rw [heap_alloc_old _ _ (by simp; omega), heap_alloc_old _ _ (by simp), heap_alloc_new]
  · rw [heap_alloc_old _ _ (by simp)]
    have := heap_alloc_new (W.alloc o1) o2
    simpa using this
set_option maxHeartbeats 1000000 in
set_option maxRecDepth 100000 in
theorem fault_nil (W : World) : Calls Tryz.prog 20 #[.nilIface] W (FtPost 0 W) := by
  go_enter Tryz.func20, Tryz.ntmps20
  go_wp2
  go_returns
  exact ⟨rfl, (Below.refl W.heap.size W).alloc (Nat.le_refl _) _⟩
set_option maxHeartbeats 2000000 in
set_option maxRecDepth 100000 in
theorem fault_1 (a0 a1 a2 : Addr) (W : World) (hS : Sent W a0 a1 a2) : Calls Tryz.prog 20 #[.iface 268 (.pointer (some a0))] W (FtPost 1 W) := by
  have HS := Lib.hid hS
  have hge := hS.ge
  have hlt := World.block_lt_of_cell? W ⟨4, 0, none⟩ hge
  clear hS
  go_enter Tryz.func20, Tryz.ntmps20
  go_wp2_with fail
  have hBa : Below W.heap.size W (((W.alloc (.cells #[.int .i64 0, .int .i64 0, .int .i64 0] 31)).alloc (.cells #[.int .i64 4, .int .i64 (-1), .int .i64 (-1)] 31)).alloc (.cells #[.pointer none] 79)) := (((Below.refl W.heap.size W).alloc (Nat.le_refl _) _).alloc (by simp) _).alloc (by simp; omega) _
  have h3 := heap3 W (.cells #[.int .i64 0, .int .i64 0, .int .i64 0] 31) (.cells #[.int .i64 4, .int .i64 (-1), .int .i64 (-1)] 31) (.cells #[.pointer none] 79)
  obtain ⟨W3, hW3⟩ : ∃ W3, W3 = (((W.alloc (.cells #[.int .i64 0, .int .i64 0, .int .i64 0] 31)).alloc (.cells #[.int .i64 4, .int .i64 (-1), .int .i64 (-1)] 31)).alloc (.cells #[.pointer none] 79)) := ⟨_, rfl⟩
  have hsz3 : W3.heap.size = W.heap.size + 3 := by rw [hW3]; simp
  rw [← hW3] at hBa h3 ⊢
  clear hW3
  refine (as_other a0 _ W3 (hBa.cell hlt |>.trans hge)).mono ?_
  rintro e w1 ⟨rfl, hB⟩
  have hBB := hBa.trans (hB.mono (by omega))
  have HS1 := Lib.hid (HS.out.below hBB (Nat.le_refl _))
  have hf2 := (hB.block W.heap.size (by omega)).trans h3.1
  have hf3 := (hB.block (W.heap.size + 1) (by omega)).trans h3.2
  have hsz1 : W.heap.size + 3 ≤ w1.heap.size := by have := hB.size; omega
  clear hBa h3 hge hlt hB
  have s0 := HS1.out.g0
  have s1 := HS1.out.g1
  have s2 := HS1.out.g2
  have e0 := cell_of_row _ _ 0 _ _ _ hf3
  have e1 := cell_of_row _ _ 1 _ _ _ hf3
  have e2 := cell_of_row _ _ 2 _ _ _ hf3
  have d0 := cell_of_row _ _ 0 _ _ _ hf2
  have d1 := cell_of_row _ _ 1 _ _ _ hf2
  have d2 := cell_of_row _ _ 2 _ _ _ hf2
  simp only [List.getElem?_toArray, List.getElem?_cons_succ, List.getElem?_cons_zero] at e0 e1 e2 d0 d1 d2
  have f0 := frozen_of_heap hf3 0
  have f2 := frozen_of_heap hf2 0
  have f3 := frozen_of_heap hf2 1
  have f4 := frozen_of_heap hf2 2
  obtain ⟨c0, t0, r0⟩ := HS.out.r0
  obtain ⟨c1, t1, r1⟩ := HS.out.r1
  obtain ⟨c2, t2, r2⟩ := HS.out.r2
  have q0 := (hBB.block _ (heap_lt r0)).trans r0
  have q1 := (hBB.block _ (heap_lt r1)).trans r1
  have q2 := (hBB.block _ (heap_lt r2)).trans r2
  have l0 := heap_lt r0
  have l1 := heap_lt r1
  have l2 := heap_lt r2
  have HK := Lib.hid (fun (o : Obj) (b : Nat) (h : b < W.heap.size) => (show (w1.alloc o).heap[b]? = w1.heap[b]? from heap_alloc_old _ _ (by omega)))
  have HK2 := Lib.hid (fun (o : Obj) (x : Value) (b : Nat) (h : b < W.heap.size) => (show ((w1.alloc o).setCell ⟨W.heap.size + 1, 0, none⟩ x).heap[b]? = w1.heap[b]? from (Below.heap_setCell _ _ _ _ (by simp; omega)).trans (heap_alloc_old _ _ (by omega))))
  have HQ := Lib.hid (And.intro q0 (And.intro q1 q2))
  have n01 := HS.out.n01
  have n12 := HS.out.n12
  have n02 := HS.out.n02
  have HNe := Lib.hid (And.intro n01 (And.intro n12 n02))
  have hA3 : ∀ o, (w1.alloc o).heap[W.heap.size + 1]? = some (.cells #[.int .i64 4, .int .i64 (-1), .int .i64 (-1)] 31 (0, 0)) := fun o => (heap_alloc_old _ _ (by omega)).trans hf3
  have a0f := fun o => frozen_of_heap (hA3 o) 0
  have a0c := fun o => cell_of_row _ _ 0 _ _ _ (hA3 o)
  have hB3 : ∀ o x, ((w1.alloc o).setCell ⟨W.heap.size + 1, 0, none⟩ x).heap[W.heap.size + 1]? = some (.cells #[x, .int .i64 (-1), .int .i64 (-1)] 31 (0, 0)) := fun o x => by
    simp [World.setCell, Array.getElem?_modify, hA3 o]
  have b0c := fun o x => cell_of_row _ _ 0 _ _ _ (hB3 o x)
  have b1c := fun o x => cell_of_row _ _ 1 _ _ _ (hB3 o x)
  have b2c := fun o x => cell_of_row _ _ 2 _ _ _ (hB3 o x)
  have hB2 : ∀ o x, ((w1.alloc o).setCell ⟨W.heap.size + 1, 0, none⟩ x).heap[W.heap.size]? = some (.cells #[.int .i64 0, .int .i64 0, .int .i64 0] 31 (0, 0)) := fun o x => (Below.heap_setCell _ _ _ _ (by simp)).trans ((heap_alloc_old _ _ (by omega)).trans hf2)
  have g0c := fun o x => cell_of_row _ _ 0 _ _ _ (hB2 o x)
  have g1c := fun o x => cell_of_row _ _ 1 _ _ _ (hB2 o x)
  have g2c := fun o x => cell_of_row _ _ 2 _ _ _ (hB2 o x)
  have g0f := fun o x => frozen_of_heap (hB2 o x) 0
  have g1f := fun o x => frozen_of_heap (hB2 o x) 1
  have g2f := fun o x => frozen_of_heap (hB2 o x) 2
  simp only [List.getElem?_toArray, List.getElem?_cons_succ, List.getElem?_cons_zero] at a0c b0c b1c b2c g0c g1c g2c
  have HB2 := Lib.hid hB2
  clear hA3 hB3 hB2
  have HBB := Lib.hid hBB
  clear q0 q1 q2 r0 r1 r2 n01 n12 n02 hf2 hf3 hBB
  go_wp2_with fail
  refine wp_loop_rounds 4 ?_
  rw [rounds_succ]
  go_wp2_with fail
  refine (is_same a0 _).mono ?_
  rintro e w2 ⟨rfl, rfl⟩
  go_wp2_with fail
  rw [rounds_succ]
  go_wp2_with fail
  refine (is_other a0 a1 _ _ _ _ _ HNe.out.1 ((HK2.out _ _ _ l0).trans HQ.out.1) ((HK2.out _ _ _ l1).trans HQ.out.2.1)).mono ?_
  rintro e w2 ⟨rfl, rfl⟩
  go_wp2_with fail
  rw [rounds_succ]
  go_wp2_with fail
  refine (is_other a0 a2 _ _ _ _ _ HNe.out.2.2 ((HK2.out _ _ _ l0).trans HQ.out.1) ((HK2.out _ _ _ l2).trans HQ.out.2.2)).mono ?_
  rintro e w2 ⟨rfl, rfl⟩
  go_wp2_with fail
  rw [rounds_succ]
  go_wp2
  (try simp only [Exit.inBlock, Exit.then])
  refine bodyPost_ret (results_cell_row rfl _ _ W.heap.size _ _ _ _ rfl (set3 (HB2.out _ _)) Tryz.underlying31 rfl (by kernel_rfl)) rfl ?_
  exact ⟨rfl, below3 ((HBB.out.alloc HBB.out.size _).setCell (p := ⟨W.heap.size + 1, 0, none⟩) (by simp) _) (Nat.le_refl _)⟩
set_option maxHeartbeats 2000000 in
set_option maxRecDepth 100000 in
theorem fault_2 (a0 a1 a2 : Addr) (W : World) (hS : Sent W a0 a1 a2) : Calls Tryz.prog 20 #[.iface 268 (.pointer (some a1))] W (FtPost 2 W) := by
  have HS := Lib.hid hS
  have hge := hS.ge
  have hlt := World.block_lt_of_cell? W ⟨4, 0, none⟩ hge
  clear hS
  go_enter Tryz.func20, Tryz.ntmps20
  go_wp2_with fail
  have hBa : Below W.heap.size W (((W.alloc (.cells #[.int .i64 0, .int .i64 0, .int .i64 0] 31)).alloc (.cells #[.int .i64 4, .int .i64 (-1), .int .i64 (-1)] 31)).alloc (.cells #[.pointer none] 79)) := (((Below.refl W.heap.size W).alloc (Nat.le_refl _) _).alloc (by simp) _).alloc (by simp; omega) _
  have h3 := heap3 W (.cells #[.int .i64 0, .int .i64 0, .int .i64 0] 31) (.cells #[.int .i64 4, .int .i64 (-1), .int .i64 (-1)] 31) (.cells #[.pointer none] 79)
  obtain ⟨W3, hW3⟩ : ∃ W3, W3 = (((W.alloc (.cells #[.int .i64 0, .int .i64 0, .int .i64 0] 31)).alloc (.cells #[.int .i64 4, .int .i64 (-1), .int .i64 (-1)] 31)).alloc (.cells #[.pointer none] 79)) := ⟨_, rfl⟩
  have hsz3 : W3.heap.size = W.heap.size + 3 := by rw [hW3]; simp
  rw [← hW3] at hBa h3 ⊢
  clear hW3
  refine (as_other a1 _ W3 (hBa.cell hlt |>.trans hge)).mono ?_
  rintro e w1 ⟨rfl, hB⟩
  have hBB := hBa.trans (hB.mono (by omega))
  have HS1 := Lib.hid (HS.out.below hBB (Nat.le_refl _))
  have hf2 := (hB.block W.heap.size (by omega)).trans h3.1
  have hf3 := (hB.block (W.heap.size + 1) (by omega)).trans h3.2
  have hsz1 : W.heap.size + 3 ≤ w1.heap.size := by have := hB.size; omega
  clear hBa h3 hge hlt hB
  have s0 := HS1.out.g0
  have s1 := HS1.out.g1
  have s2 := HS1.out.g2
  have e0 := cell_of_row _ _ 0 _ _ _ hf3
  have e1 := cell_of_row _ _ 1 _ _ _ hf3
  have e2 := cell_of_row _ _ 2 _ _ _ hf3
  have d0 := cell_of_row _ _ 0 _ _ _ hf2
  have d1 := cell_of_row _ _ 1 _ _ _ hf2
  have d2 := cell_of_row _ _ 2 _ _ _ hf2
  simp only [List.getElem?_toArray, List.getElem?_cons_succ, List.getElem?_cons_zero] at e0 e1 e2 d0 d1 d2
  have f0 := frozen_of_heap hf3 0
  have f2 := frozen_of_heap hf2 0
  have f3 := frozen_of_heap hf2 1
  have f4 := frozen_of_heap hf2 2
  obtain ⟨c0, t0, r0⟩ := HS.out.r0
  obtain ⟨c1, t1, r1⟩ := HS.out.r1
  obtain ⟨c2, t2, r2⟩ := HS.out.r2
  have q0 := (hBB.block _ (heap_lt r0)).trans r0
  have q1 := (hBB.block _ (heap_lt r1)).trans r1
  have q2 := (hBB.block _ (heap_lt r2)).trans r2
  have l0 := heap_lt r0
  have l1 := heap_lt r1
  have l2 := heap_lt r2
  have HK := Lib.hid (fun (o : Obj) (b : Nat) (h : b < W.heap.size) => (show (w1.alloc o).heap[b]? = w1.heap[b]? from heap_alloc_old _ _ (by omega)))
  have HK2 := Lib.hid (fun (o : Obj) (x : Value) (b : Nat) (h : b < W.heap.size) => (show ((w1.alloc o).setCell ⟨W.heap.size + 1, 0, none⟩ x).heap[b]? = w1.heap[b]? from (Below.heap_setCell _ _ _ _ (by simp; omega)).trans (heap_alloc_old _ _ (by omega))))
  have HQ := Lib.hid (And.intro q0 (And.intro q1 q2))
  have n01 := HS.out.n01
  have n12 := HS.out.n12
  have n02 := HS.out.n02
  have HNe := Lib.hid (And.intro n01 (And.intro n12 n02))
  have hA3 : ∀ o, (w1.alloc o).heap[W.heap.size + 1]? = some (.cells #[.int .i64 4, .int .i64 (-1), .int .i64 (-1)] 31 (0, 0)) := fun o => (heap_alloc_old _ _ (by omega)).trans hf3
  have a0f := fun o => frozen_of_heap (hA3 o) 0
  have a0c := fun o => cell_of_row _ _ 0 _ _ _ (hA3 o)
  have hB3 : ∀ o x, ((w1.alloc o).setCell ⟨W.heap.size + 1, 0, none⟩ x).heap[W.heap.size + 1]? = some (.cells #[x, .int .i64 (-1), .int .i64 (-1)] 31 (0, 0)) := fun o x => by
    simp [World.setCell, Array.getElem?_modify, hA3 o]
  have b0c := fun o x => cell_of_row _ _ 0 _ _ _ (hB3 o x)
  have b1c := fun o x => cell_of_row _ _ 1 _ _ _ (hB3 o x)
  have b2c := fun o x => cell_of_row _ _ 2 _ _ _ (hB3 o x)
  have hB2 : ∀ o x, ((w1.alloc o).setCell ⟨W.heap.size + 1, 0, none⟩ x).heap[W.heap.size]? = some (.cells #[.int .i64 0, .int .i64 0, .int .i64 0] 31 (0, 0)) := fun o x => (Below.heap_setCell _ _ _ _ (by simp)).trans ((heap_alloc_old _ _ (by omega)).trans hf2)
  have g0c := fun o x => cell_of_row _ _ 0 _ _ _ (hB2 o x)
  have g1c := fun o x => cell_of_row _ _ 1 _ _ _ (hB2 o x)
  have g2c := fun o x => cell_of_row _ _ 2 _ _ _ (hB2 o x)
  have g0f := fun o x => frozen_of_heap (hB2 o x) 0
  have g1f := fun o x => frozen_of_heap (hB2 o x) 1
  have g2f := fun o x => frozen_of_heap (hB2 o x) 2
  simp only [List.getElem?_toArray, List.getElem?_cons_succ, List.getElem?_cons_zero] at a0c b0c b1c b2c g0c g1c g2c
  have HB2 := Lib.hid hB2
  clear hA3 hB3 hB2
  have HBB := Lib.hid hBB
  clear q0 q1 q2 r0 r1 r2 n01 n12 n02 hf2 hf3 hBB
  go_wp2_with fail
  refine wp_loop_rounds 4 ?_
  rw [rounds_succ]
  go_wp2_with fail
  refine (is_other a1 a0 _ _ _ _ _ (Ne.symm HNe.out.1) ((HK.out _ _ l1).trans HQ.out.2.1) ((HK.out _ _ l0).trans HQ.out.1)).mono ?_
  rintro e w2 ⟨rfl, rfl⟩
  go_wp2_with fail
  rw [rounds_succ]
  go_wp2_with fail
  refine (is_same a1 _).mono ?_
  rintro e w2 ⟨rfl, rfl⟩
  go_wp2_with fail
  rw [rounds_succ]
  go_wp2_with fail
  refine (is_other a1 a2 _ _ _ _ _ HNe.out.2.1 ((HK2.out _ _ _ l1).trans HQ.out.2.1) ((HK2.out _ _ _ l2).trans HQ.out.2.2)).mono ?_
  rintro e w2 ⟨rfl, rfl⟩
  go_wp2_with fail
  rw [rounds_succ]
  go_wp2
  (try simp only [Exit.inBlock, Exit.then])
  refine bodyPost_ret (results_cell_row rfl _ _ W.heap.size _ _ _ _ rfl (set3 (HB2.out _ _)) Tryz.underlying31 rfl (by kernel_rfl)) rfl ?_
  exact ⟨rfl, below3 ((HBB.out.alloc HBB.out.size _).setCell (p := ⟨W.heap.size + 1, 0, none⟩) (by simp) _) (Nat.le_refl _)⟩
theorem fault_any (k : Nat) (hk : k ≤ 2) (a0 a1 a2 : Addr) (W : World) (hS : Sent W a0 a1 a2) : Calls Tryz.prog 20 #[ev k a0 a1] W (FtPost k W) := by
  rcases (by omega : k = 0 ∨ k = 1 ∨ k = 2) with rfl | rfl | rfl
  · exact fault_nil W
  · exact fault_1 a0 a1 a2 W hS
  · exact fault_2 a0 a1 a2 W hS
end Go.Proofs.YtcnpkijjnbhagaaGreatDoor
