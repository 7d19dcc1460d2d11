/- The law's check of one line's classes, walked. -/
import Derived.Test.YtcnpkijjnbhagaaGreatDoorCfault
import Derived.Test.YtcnpkijjnbhagaaGreatDoorUpto
namespace Go.Proofs.YtcnpkijjnbhagaaGreatDoor
open Go.RowKit Go.Lib

theorem fault_le (s : ByteArray) : faultF s ≤ 2 := by
  unfold faultF
  split
  · omega
  · split
    · omega
    · split <;> omega
/-- All that the walk of a line's classes asks of the memory. -/
structure Env (W : World) (a0 a1 a2 : Addr) (tb tt cap : Nat) : Prop where
  sent : Sent W a0 a1 a2
  tabs : Lib.Utf8Tabs 6 7 W
  tab : TabAt W tb tt cap
theorem Env.below {W W' : World} {a0 a1 a2 : Addr} {tb tt cap : Nat} (h : Env W a0 a1 a2 tb tt cap) {B : Nat} (hb : Below B W W') (hB : W.heap.size ≤ B) : Env W' a0 a1 a2 tb tt cap :=
  ⟨h.sent.below hb hB, Utf8Tabs_below h.tabs (hb.mono hB), h.tab.below hb hB⟩
def PcPost (s : ByteArray) (W : World) (e : Ending) (w' : World) : Prop :=
  ∃ (vo : Option Addr) (c : Nat), e = .returned (.tuple #[.slice vo (okL s).length c, fv (faultF s)]) ∧ w'.ownsRow W.heap.size 3 1 (.slice vo (okL s).length c) (okL s).length (((okL s).map refC).map iv) ∧ (faultF s ≠ 0 → vo = none ∧ c = 0) ∧ Below W.heap.size W w'
set_option maxHeartbeats 1000000 in
set_option maxRecDepth 100000 in
theorem pclasses_any (s : ByteArray) (a0 a1 a2 : Addr) (tb tt cap : Nat) (W : World) (hE : Env W a0 a1 a2 tb tt cap) : Calls Tryz.prog 8 #[.string s] W (PcPost s W) := by
  have HE := Lib.hid hE
  clear hE
  obtain ⟨fa, fb, fc, hfv⟩ := fv_agg (faultF s)
  have HFV := Lib.hid hfv
  clear hfv
  have HX := Lib.hid (HE.out.below ((Below.refl W.heap.size W).alloc (Nat.le_refl _) (.cells #[.int .i64 0, .int .i64 0, .int .i64 0] 31)) (Nat.le_refl _))
  go_enter Tryz.func8, Tryz.ntmps8
  go_wp2_with fail
  refine (gclasses_any s a0 a1 tb tt cap _ HX.out.sent.g0 HX.out.sent.g1 HX.out.tabs HX.out.tab).mono ?_
  rintro e w1 ⟨vo, c, rfl, ho, hn, hB⟩
  have HO := Lib.hid ho
  have HN := Lib.hid hn
  have hh := cell_kept hB
  have HE1 := Lib.hid (HX.out.below hB (Nat.le_refl _))
  have HB := Lib.hid (((Below.refl W.heap.size W).alloc (Nat.le_refl _) _).trans (hB.mono (by simp)))
  have hw1 : W.heap.size < w1.heap.size := by have := hB.size; simp at this; omega
  clear ho hn hB
  go_wp2_with fail
  refine (fault_any (faultF s) (fault_le s) a0 a1 a2 w1 HE1.out.sent).mono ?_
  rintro e w2 ⟨rfl, hB2⟩
  rw [HFV.out]
  have hh2 := (hB2.block W.heap.size hw1).trans hh
  have e0 := cell_of_row _ _ 0 _ _ _ hh2
  have e1 := cell_of_row _ _ 1 _ _ _ hh2
  have e2 := cell_of_row _ _ 2 _ _ _ hh2
  simp only [List.getElem?_toArray, List.getElem?_cons_succ, List.getElem?_cons_zero] at e0 e1 e2
  have f0 := frozen_of_heap hh2 0
  have f1 := frozen_of_heap hh2 1
  have f2 := frozen_of_heap hh2 2
  have HH := Lib.hid hh2
  have hne : (Value.slice vo (okL s).length c).ownBlock ≠ some W.heap.size := fun e => by have := (HO.out.lt _ e).1; simp at this; omega
  have ho4 : Hid (w2.ownsRow W.heap.size 3 1 (.slice vo (okL s).length c) (okL s).length (((okL s).map refC).map iv)) := own_lower (ownI_below HO.out hB2 rfl) (by simp)
  have HBB := Lib.hid (HB.out.trans (hB2.mono (by omega)))
  clear hh hh2 hB2
  go_wp2
  (try simp only [Exit.inBlock, Exit.then])
  refine bodyPost_ret (results_tmp_cell rfl _ _ W.heap.size _ _ _ _ rfl (set3 HH.out) Tryz.underlying31 rfl (by kernel_rfl)) rfl ?_
  refine ⟨vo, c, by rw [HFV.out]; rfl, ?_, HN.out, below3 HBB.out (Nat.le_refl _)⟩
  exact ownsRow_setCell_other (ownsRow_setCell_other (ownsRow_setCell_other ho4.out hne _) hne _) hne _
end Go.Proofs.YtcnpkijjnbhagaaGreatDoor
