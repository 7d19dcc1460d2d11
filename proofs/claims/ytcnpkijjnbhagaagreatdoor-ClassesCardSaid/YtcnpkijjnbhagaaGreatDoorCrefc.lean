/- The reference's Classes, walked. -/
import Derived.Test.YtcnpkijjnbhagaaGreatDoorCasked
import Derived.Deep.RegionHeld3
namespace Go.Proofs.YtcnpkijjnbhagaaGreatDoor
open Go.RowKit Go.Lib

def okL (s : ByteArray) : List Nat := if faultF s = 0 then runesOf s.data.toList else []
theorem okL_len (s : ByteArray) : (okL s).length ≤ 600 ∧ ∀ r ∈ okL s, r ≤ 1114111 := by
  unfold okL
  split
  · rename_i h
    have h6 : s.size ≤ 600 := by
      rcases Nat.lt_or_ge 600 s.size with h' | h'
      · unfold faultF at h; rw [if_pos h'] at h; cases h
      · exact h'
    have h1 := runes_len _ s.data.toList (Nat.le_refl _)
    have hls : s.data.toList.length = s.size := by simp
    exact ⟨by omega, runes_le _ _ (Nat.le_refl _)⟩
  · simp
theorem fv_agg (k : Nat) : ∃ a b c : Int, fv k = .agg #[.int .i64 a, .int .i64 b, .int .i64 c] := by
  unfold fv
  split
  · exact ⟨_, _, _, rfl⟩
  · exact ⟨_, _, _, rfl⟩
def RcPost (s : ByteArray) (W : World) (e : Ending) (w' : World) : Prop :=
  ∃ (vo : Option Addr) (c : Nat), e = .returned (.tuple #[.slice vo (okL s).length c, fv (faultF s)]) ∧ w'.ownsRow W.heap.size 3 1 (.slice vo (okL s).length c) (okL s).length (((okL s).map refC).map iv) ∧ Below W.heap.size W w'
theorem ints_heap {w w' : World} {vo : Option Addr} {L : List Int} (h : IntsAt w vo L) (hh : w'.heap = w.heap) : IntsAt w' vo L := by
  intro k x hx
  obtain ⟨g, o, hg, hc⟩ := h k x hx
  refine ⟨g, o, hg, ?_⟩
  unfold World.cell? at hc ⊢
  rw [hh]
  exact hc
theorem set3_cell {w : World} {b g i : Nat} {x y z : Value} (h : b ≠ g) : (((w.setCell ⟨b, 0, none⟩ x).setCell ⟨b, 1, none⟩ y).setCell ⟨b, 2, none⟩ z).cell? ⟨g, i, none⟩ = w.cell? ⟨g, i, none⟩ := by
  rw [World.cell?_setCell_other _ _ _ _ (fun e => h (congrArg Addr.block e)), World.cell?_setCell_other _ _ _ _ (fun e => h (congrArg Addr.block e)), World.cell?_setCell_other _ _ _ _ (fun e => h (congrArg Addr.block e))]
theorem ints_set3 {w : World} {vo : Option Addr} {L : List Int} {b : Nat} {x y z : Value} (h : IntsAt w vo L) (hb : ∀ g o, vo = some ⟨g, o, none⟩ → b ≠ g) : IntsAt (((w.setCell ⟨b, 0, none⟩ x).setCell ⟨b, 1, none⟩ y).setCell ⟨b, 2, none⟩ z) vo L := by
  intro k x hx
  obtain ⟨g, o, hg, hc⟩ := h k x hx
  have hne := hb g o hg
  refine ⟨g, o, hg, ?_⟩
  rw [World.cell?_setCell_other _ _ _ _ (fun e => by have := congrArg Addr.block e; simp at this; omega), World.cell?_setCell_other _ _ _ _ (fun e => by have := congrArg Addr.block e; simp at this; omega), World.cell?_setCell_other _ _ _ _ (fun e => by have := congrArg Addr.block e; simp at this; omega)]
  exact hc
theorem own_lower {W : World} {b b' : Nat} {e : TypeId} {size : Nat} {v : Value} {n : Nat} {xs : List Value} (h : W.ownsRow b e size v n xs) (hb : b' ≤ b) : W.ownsRow b' e size v n xs := by
  obtain ⟨h1, h2⟩ := h
  refine ⟨h1, ?_⟩
  rcases h2 with h2 | ⟨g, cap, cur, k1, k2, k3⟩
  · exact .inl h2
  · exact .inr ⟨g, cap, cur, k1, by omega, k3⟩
set_option maxHeartbeats 2000000 in
set_option maxRecDepth 100000 in
theorem refClasses_any (s : ByteArray) (W : World) : Calls Tryz.prog 9 #[.string s] W (RcPost s W) := by
  obtain ⟨hl6, hl4⟩ := okL_len s
  have HL4 := Lib.hid hl4
  clear hl4
  obtain ⟨fa, fb, fc, hfv⟩ := fv_agg (faultF s)
  have HFV := Lib.hid hfv
  go_enter Tryz.func9, Tryz.ntmps9
  go_wp2_with fail
  refine (asked_any s _).mono ?_
  rintro e w1 ⟨vo, c, L, rfl, hL, hI, hg, hB⟩
  have hL' : L = okL s := hL
  clear hL
  subst hL'
  rw [hfv]
  have hh := cell_kept hB
  have hBB : Below W.heap.size W w1 := ((Below.refl W.heap.size W).alloc (Nat.le_refl _) _).trans (hB.mono (by simp))
  have hw1 : W.heap.size < w1.heap.size := by have := hB.size; simp at this; omega
  have hg' : ∀ g o, vo = some ⟨g, o, none⟩ → W.heap.size ≠ g := fun g o h => by have := hg g o h; simp at this; omega
  obtain ⟨W2, hW2⟩ : ∃ W2, W2 = w1.alloc (.cells #[.int .i64 fa, .int .i64 fb, .int .i64 fc] 34) := ⟨_, rfl⟩
  have hn2 : W2.heap[w1.heap.size]? = some (.cells #[.int .i64 fa, .int .i64 fb, .int .i64 fc] 34 (0, 0)) := by rw [hW2]; exact heap_alloc_new w1 _
  have hB2 : Below W.heap.size W W2 := by rw [hW2]; exact hBB.alloc hBB.size _
  have hh2 : W2.heap[W.heap.size]? = some (.cells #[.int .i64 0, .int .i64 0, .int .i64 0] 34 (0, 0)) := by
    rw [hW2, heap_alloc_old _ _ hw1]; exact hh
  have hI2 : IntsAt W2 vo ((okL s).map zv) := by rw [hW2]; exact hI.below ((Below.refl w1.heap.size w1).alloc (Nat.le_refl _) _) (Nat.le_refl _)
  have hs2 : w1.heap.size < W2.heap.size := by rw [hW2]; simp
  go_wp2_with fail
  rw [← hW2]
  have s0 := cell_of_row _ _ 0 _ _ _ hn2
  have s1 := cell_of_row _ _ 1 _ _ _ hn2
  have s2 := cell_of_row _ _ 2 _ _ _ hn2
  simp only [List.getElem?_toArray, List.getElem?_cons_succ, List.getElem?_cons_zero] at s0 s1 s2
  have HI := Lib.hid hI2
  have HH := Lib.hid hh2
  have HB := Lib.hid hB2
  clear hI hI2 hh hh2 hB hBB hB2 hg hn2 hW2
  have HCL := Lib.hid (fun w' => classes_any (okL s) vo c w' (by omega) HL4.out)
  go_region_held3 (fun w' => w'.cell? ⟨w1.heap.size, 0, none⟩ = some (.int .i64 fa) ∧ w'.cell? ⟨w1.heap.size, 1, none⟩ = some (.int .i64 fb) ∧ w'.cell? ⟨w1.heap.size, 2, none⟩ = some (.int .i64 fc))
    (first
      | go_keep
      | (go_split_ands
         refine ⟨?_, ?_, ?_⟩
         · first | (rw [set3_cell (by omega)]; assumption) | ((rw [hB3.cell (by simp; omega)]); assumption)
         · first | (rw [set3_cell (by omega)]; assumption) | ((rw [hB3.cell (by simp; omega)]); assumption)
         · first | (rw [set3_cell (by omega)]; assumption) | ((rw [hB3.cell (by simp; omega)]); assumption)))
    ((go_at_call 22; refine (HCL.out _ (ints_heap HI.out (by first | rfl | simp))).mono ?_; rintro e w3 ⟨v, rfl, ho3, hB3⟩; have hh3 := (hB3.block W.heap.size (by first | exact Nat.lt_trans hw1 hs2 | (simp; omega))).trans HH.out; have t0 := cell_of_row _ _ 0 _ _ _ hh3; have t1 := cell_of_row _ _ 1 _ _ _ hh3; have t2 := cell_of_row _ _ 2 _ _ _ hh3; simp only [List.getElem?_toArray, List.getElem?_cons_succ, List.getElem?_cons_zero] at t0 t1 t2; have f0 := frozen_of_heap hh3 0; have f1 := frozen_of_heap hh3 1; have f2 := frozen_of_heap hh3 2))
  go_wp2
  (try simp only [Exit.inBlock, Exit.then])
  refine bodyPost_ret (results_tmp_cell rfl _ _ W.heap.size _ _ _ _ rfl (set3 hh3) Tryz.underlying34 rfl (by kernel_rfl)) rfl ?_
  obtain ⟨rvo, rc, rfl⟩ : ∃ rvo rc, v = .slice rvo (okL s).length rc := own_slice ho3
  have hsz := HB.out.size
  have ho4 : w3.ownsRow W.heap.size 3 1 (.slice rvo (okL s).length rc) (okL s).length (((okL s).map refC).map iv) := own_lower ho3 (by simp; omega)
  have hne : (Value.slice rvo (okL s).length rc).ownBlock ≠ some W.heap.size := fun e => by have := (ho3.lt _ e).1; simp at this; omega
  refine ⟨rvo, rc, by rw [HFV.out]; rfl, ?_, below3 (HB.out.drew.trans (hB3.mono (by simp; omega))) (Nat.le_refl _)⟩
  exact ownsRow_setCell_other (ownsRow_setCell_other (ownsRow_setCell_other ho4 hne _) hne _) hne _
end Go.Proofs.YtcnpkijjnbhagaaGreatDoor
