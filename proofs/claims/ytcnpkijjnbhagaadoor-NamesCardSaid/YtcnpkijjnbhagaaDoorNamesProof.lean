/- The law Names answers true: the tied card of the statement NamesCardSaid, closed. No condition beyond the given row's own. -/
import Derived.Test.YtcnpkijjnbhagaaDoorRows
import Derived.Test.YtcnpkijjnbhagaaDoorTie
import Derived.Test.YtcnpkijjnbhagaaDoorCards
import Derived.Test.YtcnpkijjnbhagaaDoorNames
import Derived.ProofKit
import Derived.LaidMore
import Derived.LaidLaws
import Derived.Stop.Joined
import Derived.SevenTiedAt
namespace Go.Proofs.YtcnpkijjnbhagaaDoor
open Go.ChangeShapes Go.WideShapes Go.ChangeAt Go.RowKit

theorem Tryd.own : ownKnob Tryd.prog.godebug = none := by kernel_rfl
theorem Tryd.g0 : Tryd.prog.globalNamed "bidiguard/guard.ErrLong" = some 0 := by kernel_rfl
theorem Tryd.g1 : Tryd.prog.globalNamed "bidiguard/guard.ErrText" = some 1 := by kernel_rfl
theorem Tryd.g2 : Tryd.prog.globalNamed "bidiguard/guard.ErrCode" = some 2 := by kernel_rfl
theorem Tryd.gt0 : (Tryd.prog.globals[0]?).map (·.type) = some 24 := by kernel_rfl
theorem Tryd.gt1 : (Tryd.prog.globals[1]?).map (·.type) = some 24 := by kernel_rfl
theorem Tryd.gt2 : (Tryd.prog.globals[2]?).map (·.type) = some 24 := by kernel_rfl
theorem Tryd.cells43 : Tryd.prog.cellsOf 43 = 1 := by kernel_rfl
theorem Tryd.cells9 : Tryd.prog.cellsOf 9 = 1 := by kernel_rfl
theorem Tryd.star : "*" ++ "errors.errorString" = "*errors.errorString" := by decide
theorem Tryd.row25 (u : TypeId) (h : Tryd.prog.typeName? 3 u = some "*errors.errorString") : u = 25 :=
  typeName_ptr_named (nm := "errors.errorString") (by rw [Tryd.star]; kernel_rfl) (by kernel_rfl) (by decide) u (by rw [Tryd.star]; exact h)

/-- What the listed variables hold when the call begins: three pointers, all different, in unmarked blocks. -/
theorem sentinels_of_laid {W : World} (h : laidMetH Tryd.prog Rows.namesRow.laid W) :
    ∃ (a0 a1 a2 : Addr) (c0 c1 c2 : Array Value) (t0 t1 t2 : TypeId),
      W.cell? ⟨0, 0, none⟩ = some (.iface 25 (.pointer (some a0))) ∧ W.cell? ⟨1, 0, none⟩ = some (.iface 25 (.pointer (some a1))) ∧ W.cell? ⟨2, 0, none⟩ = some (.iface 25 (.pointer (some a2))) ∧
      a0 ≠ a1 ∧ a1 ≠ a2 ∧ a0 ≠ a2 ∧
      W.heap[a0.block]? = some (.cells c0 t0 (0, 0)) ∧ W.heap[a1.block]? = some (.cells c1 t1 (0, 0)) ∧ W.heap[a2.block]? = some (.cells c2 t2 (0, 0)) := by
  have h' : laidMet Tryd.prog [("bidiguard/guard.ErrLong", Rows.laid_bidiguard_guard_ErrLong), ("bidiguard/guard.ErrText", Rows.laid_bidiguard_guard_ErrText), ("bidiguard/guard.ErrCode", Rows.laid_bidiguard_guard_ErrCode)] W := h
  obtain ⟨ps, ⟨g0, t0, cs0, f0, p0, q0, hg0, ht0, hv0, hd0, ⟨g1, t1, cs1, f1, p1, q1, hg1, ht1, hv1, hd1, ⟨g2, t2, cs2, f2, p2, q2, hg2, ht2, hv2, hd2, hq2, e2⟩, e1⟩, e0⟩, hnd, hrows⟩ := h'
  obtain rfl := Option.some.inj (Tryd.g0.symm.trans hg0)
  obtain rfl := Option.some.inj (Tryd.g1.symm.trans hg1)
  obtain rfl := Option.some.inj (Tryd.g2.symm.trans hg2)
  obtain rfl := Option.some.inj (Tryd.gt0.symm.trans ht0)
  obtain rfl := Option.some.inj (Tryd.gt1.symm.trans ht1)
  obtain rfl := Option.some.inj (Tryd.gt2.symm.trans ht2)
  have hq2' : q2 = [] := hq2
  subst hq2'
  subst e2
  subst e1
  subst e0
  obtain ⟨l0⟩ := cs0
  obtain ⟨l1⟩ := cs1
  obtain ⟨l2⟩ := cs2
  have ok0 : ∀ u v, l0 = [.iface u v] → Value.okWide Tryd.prog W .any 0 u v := fun u v e => by
    subst e
    exact (hrows 0 0 (by simp [MemPlace.row])).2 u v (by simpa using World.var?_cell hg0 hv0 0)
  have ok1 : ∀ u v, l1 = [.iface u v] → Value.okWide Tryd.prog W .any 0 u v := fun u v e => by
    subst e
    exact (hrows 1 0 (by simp [MemPlace.row])).2 u v (by simpa using World.var?_cell hg1 hv1 0)
  have ok2 : ∀ u v, l2 = [.iface u v] → Value.okWide Tryd.prog W .any 0 u v := fun u v e => by
    subst e
    exact (hrows 2 0 (by simp [MemPlace.row])).2 u v (by simpa using World.var?_cell hg2 hv2 0)
  obtain ⟨a0, s0, rfl, hc0, hs0, hz0, rfl⟩ := errorString_of_trod Tryd.underlying24 Tryd.row25 Tryd.underlying25 Tryd.underlying43 rfl rfl Tryd.underlying9 Tryd.cells43 Tryd.cells9 hd0 ok0
  obtain ⟨a1, s1, rfl, hc1, hs1, hz1, rfl⟩ := errorString_of_trod Tryd.underlying24 Tryd.row25 Tryd.underlying25 Tryd.underlying43 rfl rfl Tryd.underlying9 Tryd.cells43 Tryd.cells9 hd1 ok1
  obtain ⟨a2, s2, rfl, hc2, hs2, hz2, rfl⟩ := errorString_of_trod Tryd.underlying24 Tryd.row25 Tryd.underlying25 Tryd.underlying43 rfl rfl Tryd.underlying9 Tryd.cells43 Tryd.cells9 hd2 ok2
  obtain ⟨c0, t0, hb0⟩ := (hrows a0.block a0.off (by simp [MemPlace.row])).1
  obtain ⟨c1, t1, hb1⟩ := (hrows a1.block a1.off (by simp [MemPlace.row])).1
  obtain ⟨c2, t2, hb2⟩ := (hrows a2.block a2.off (by simp [MemPlace.row])).1
  refine ⟨a0, a1, a2, c0, c1, c2, t0, t1, t2, by simpa using World.var?_cell hg0 hv0 0, by simpa using World.var?_cell hg1 hv1 0, by simpa using World.var?_cell hg2 hv2 0, ?_, ?_, ?_, hb0, hb1, hb2⟩
  · rintro rfl; simp [MemPlace.row] at hnd
  · rintro rfl; simp [MemPlace.row] at hnd
  · rintro rfl; simp [MemPlace.row] at hnd

theorem door_met (os : Os) (args : Array Value) : laidMetH Tryd.prog Rows.namesRow.laid ((World.doorLaid Tryd.prog 66 os).forCall (fun _ _ => 0) ⟨#[], args, []⟩).memory :=
  laidMetH_of_parts3 (fuel := 8) (laidMet_of_run' 8 (by kernel_rfl) (by kernel_rfl)) (by kernel_rfl) (by kernel_rfl)

set_option maxRecDepth 100000 in
theorem names_lifted (os : Os) (started : os.Started) (H : Type) (enc : TypeId × Value → H) :
    ReturnsInHanded {} Tryd.checked os 3 .any (fun w args => (Rows.namesSpec.pre enc Tryd.prog Tryd.f3 [] false w args ∧ laidMetH Tryd.prog Rows.namesRow.laid w) ∧ sizedMet enc Tryd.prog Tryd.f3 (OpenSpec.ofChange Rows.namesSpec) false w args)
      (Rows.namesSpec.post enc Tryd.prog Tryd.f3 false true false false) := by
  refine returnsInHanded_of_change_and (C := Tryd.checked) (X := fun w _ => laidMetH Tryd.prog Rows.namesRow.laid w) (fun _ _ _ hh h => h.of_heap hh) Tryd.own started (by kernel_rfl) Tryd.func3
    (ChangeSpec.witness_shaped (enc := enc) (C := Tryd.checked) (os := os) (X := fun w _ => laidMetH Tryd.prog Rows.namesRow.laid w) false (World.doorLaid Tryd.prog 66 os) #[] 8 rfl (World.shaped_of_RefB (by kernel_rfl) (by kernel_rfl)) (by kernel_rfl) (by kernel_rfl) (by kernel_rfl) (door_met os _)) ?_
  intro W base args ds gs before hval0 hW _ _ hL _
  have hW' := hW
  obtain ⟨p, q, hA0, hV, rfl, hfz, hnd⟩ := hW
  have hA : DataW.TrodAll enc Tryd.prog W 0 (fun _ => true) true Tryd.f3.params.toList args.toList ds p := hA0
  rw [Tryd.params3] at hA
  obtain ⟨rfl, rfl, rfl⟩ := trodAll_none hA
  obtain ⟨rfl, rfl⟩ := trodVars_none hV
  obtain ⟨a0, a1, a2, c0, c1, c2, t0, t1, t2, h0, h1, h2, n01, n12, n02, b0, b1, b2⟩ := sentinels_of_laid hL
  refine (names_true a0 a1 a2 c0 c1 c2 t0 t1 t2 W h0 h1 h2 n01 n12 n02 b0 b1 b2).mono fun e W' ⟨he, hw⟩ => ?_
  subst he; subst hw
  have e1 : Rows.namesSpec.fn H ([] ++ []) = { results := [.lit (.bool true)], args := [] } := by simp [Rows.namesSpec]
  refine ⟨_, rfl, _, _, _, [], [], [], hW', ?_, ?_, ?_, World.keptBut_refl _ _, fun h => by cases h⟩
  · rw [e1]; exact trodAll_mk1 (shut_bool Tryd.underlying4 true)
  · rw [e1]; exact hA0
  · rw [e1]; rfl

theorem names_holds : Rows.NamesSaid :=
  OpenClaim.holds_of_wide 3 Tryd.f3 rfl rfl rfl rfl rfl rfl rfl ⟨rfl, rfl, rfl, rfl, rfl⟩ rfl rfl rfl rfl rfl (by kernel_rfl) Tryd.func3 (by kernel_rfl)
    (of_decide_eq_true (by kernel_rfl)) (by unfold Func.isWrapper; rw [if_neg (of_decide_eq_false (by kernel_rfl))]; exact ⟨rfl, rfl⟩)
    (fun os started H enc _ => names_lifted os started H enc)

theorem namesCard_holds : Rows.NamesCardSaid :=
  Claim7.holds_tied_plain_at .later [] _ _ _ _
    names_holds (fun _ h => by cases h) (by kernel_rfl) (fun _ h => by cases h) names_row_tie rfl ⟨rfl, rfl⟩ (by kernel_rfl) rfl
    (fun f fn hf hfn => by
      obtain rfl : f = 3 := Option.some.inj ((show Tryd.prog.funcNamed "bidiguard/bidiguardlaw.Names" = some 3 by kernel_rfl).symm.trans hf) |>.symm
      obtain rfl : fn = Tryd.f3 := (Option.some.inj (Tryd.func3.symm.trans hfn)).symm
      exact ⟨by kernel_rfl, fun j t ht => by
        rw [Tryd.params3] at ht
        simp at ht⟩)
    (by kernel_rfl)
#print axioms namesCard_holds
end Go.Proofs.YtcnpkijjnbhagaaDoor
