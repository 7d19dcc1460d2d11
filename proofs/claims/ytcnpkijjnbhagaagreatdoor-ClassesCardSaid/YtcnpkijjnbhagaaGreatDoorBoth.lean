/- The row of a law over scripts, in one theorem: where the law's call answers true and turns nothing that was there, its tied card's row holds. -/
import Derived.Test.YtcnpkijjnbhagaaGreatDoorSteps
import Derived.Test.YtcnpkijjnbhagaaGreatDoorTie
import Derived.Test.YtcnpkijjnbhagaaGreatDoorCards
import Derived.ProofKit
import Derived.HandedShaped
import Derived.Shelf.Vars
import Derived.LaidMore
import Derived.LaidLaws
import Derived.Stop.Joined
import Derived.SevenTiedAt
import Derived.LaidOnce
import Derived.Lay
namespace Go.Proofs.YtcnpkijjnbhagaaGreatDoor
open Go.ChangeShapes Go.WideShapes Go.ChangeAt Go.RowKit

/-- A contract under a premise on the world's memory, with what the first world's shape says. -/
theorem handed_both {H : Type} {enc : TypeId × Value → H} {a : Assume} {C : Checked} {os : Os} {f : FuncId} {fn : Func} {s : ChangeSpec} {conds : List PathCond} {apart fresh handsOn again : Bool} {X : World → Array Value → Prop}
    (hX : ∀ (w w' : World) (args : Array Value), w.heap = w'.heap → X w args → X w' args)
    (own : ownKnob C.prog.godebug = none) (started : os.Started) (noInit : C.prog.inits.idxOf? f = none) (hfn : C.prog.funcs[f]? = some fn)
    (witness : ∃ (w : World) (tape : Tape) (i : Input), w.os = os ∧ (w.forCall tape i).Shaped C.prog ∧ i.vars = [] ∧ Input.okWide C.prog (w.forCall tape i) .any w.heap.size f i ∧
      ((s.pre enc C.prog fn conds apart (w.forCall tape i).memory i.args ∧ X (w.forCall tape i).memory i.args) ∧ sizedMet enc C.prog fn (OpenSpec.ofChange s) apart (w.forCall tape i).memory i.args) ∧ a.holds C.prog (lone (Frame.enter C.prog f i.args .normal) [] (w.forCall tape i)))
    (contract : ∀ (W : World) (base : Nat) (args : Array Value) (ds gs : List (DataW H)) (before : List MemPlace),
      (∀ (j : Nat) t v, fn.params[j]? = some t → args[j]? = some v → Value.okWide C.prog W .any base t v) →
      DataW.Whole enc C.prog fn.params.toList s.vars apart W args.toList ds gs before → X W args → W.ShapedOpen C.prog →
      Calls C.prog f args W fun e W' => ∃ v, e = .returned v ∧ s.post enc C.prog fn apart fresh handsOn again W args v W') :
    ReturnsInHanded a C os f .any (fun w args => (s.pre enc C.prog fn conds apart w args ∧ X w args) ∧ sizedMet enc C.prog fn (OpenSpec.ofChange s) apart w args) (s.post enc C.prog fn apart fresh handsOn again) := by
  refine returnsInHanded_of_calls own started noInit witness ?_
  intro w tape i _ hsh _ hok hpre _
  obtain ⟨_, _, _, fn', hfn', _, _, _, _, hval⟩ := hok
  obtain rfl : fn' = fn := Option.some.inj (hfn'.symm.trans hfn)
  obtain ⟨⟨⟨ds, gs, before, hw, _⟩, hx⟩, _⟩ := hpre
  refine (contract (w.forCall tape i) w.heap.size i.args ds gs before hval (DataW.Whole.of_heap (w' := w.forCall tape i) (by rfl) hw) (hX _ _ _ (by rfl) hx) hsh).mono fun e W' ⟨v, he, hp⟩ => ?_
  subst he
  exact ChangeSpec.post_blind hp

theorem Tryz.own : ownKnob Tryz.prog.godebug = none := by kernel_rfl
theorem Tryz.laidOut : laidOutB Tryz.prog = true := by kernel_rfl
theorem maxlen_cell {W : World} (h : W.ShapedOpen Tryz.prog) : ∃ m, W.cell? ⟨8, 0, none⟩ = some (.int .i64 m) :=
  cell_of_shapedOpen_int (t := 3) (zero := #[.int .i64 0]) h (of_decide_eq_true (by kernel_rfl)) (by kernel_rfl) rfl (by kernel_rfl) (by kernel_rfl) Tryz.underlying3

/-- The world that the door lays, with the pinned table of utf8 in its place. -/
noncomputable def firstCells : Array Value := (((Go.Pinned.utf8First.lay Tryz.prog 194 0).map (·.1)).getD []).toArray
noncomputable def doorW (os : Os) : World := { World.doorLaid Tryz.prog 138 os with heap := (World.doorLaid Tryz.prog 138 os).heap.setIfInBounds 6 (.cells firstCells 194) }
noncomputable def dwLeaves (os : Os) (args : Array Value) : Option (List (String × DataW Unit)) :=
  (DataW.laidRun Tryz.prog ((doorW os).forCall (fun _ _ => 0) ⟨#[], args, []⟩).memory 8 ((Rows.partsRow.laid.filter fun x => x.2.handleName?.isNone).map (·.1))).bind fun x =>
    if nodupBits 300 x.2 0 && laidRowsB Tryz.prog ((doorW os).forCall (fun _ _ => 0) ⟨#[], args, []⟩).memory x.2 then some x.1 else none
theorem dw_leaves (os : Os) (args : Array Value) : dwLeaves os args = some (Rows.partsRow.laid.filter fun x => x.2.handleName?.isNone) := by kernel_rfl
theorem door_met (os : Os) (args : Array Value) : laidMetH Tryz.prog Rows.partsRow.laid ((doorW os).forCall (fun _ _ => 0) ⟨#[], args, []⟩).memory := by
  have d := dw_leaves os args
  unfold dwLeaves at d
  simp only [Option.bind_eq_some_iff] at d
  obtain ⟨x, hx, d⟩ := d
  split at d
  · rename_i hb
    simp only [Bool.and_eq_true] at hb
    have e1 := Option.some.inj d
    exact laidMetH_of_parts3 (fuel := 8) (laidMet_of_run (ps := x.2) 8 (by rw [hx, ← e1]) (decide_eq_true (nodupBits_sound hb.1).1) hb.2) (by kernel_rfl) (by kernel_rfl)
  · cases d

/-- The row's last step where the call has made new memory and turned nothing else. -/
theorem post_below {H : Type} {enc : TypeId × Value → H} {P : Program} {f : Func} {s : ChangeSpec} {apart fresh handsOn : Bool} {W W' : World} {args : Array Value} {v : Value} {ds gs : List (DataW H)} {before pa pv : List MemPlace}
    (hW : DataW.Whole enc P f.params.toList s.vars apart W args.toList ds gs before)
    (hres : ∀ (b : Nat) (sp : Nat → Bool) (hd : Bool), DataW.TrodAll enc P W' b sp hd f.resultTypes.toList (v.resultList f.resultTypes.size) (s.fn H (ds ++ gs)).results [])
    (hargs : ∀ sp : Nat → Bool, (∀ p ∈ before, sp p.block = true) → DataW.TrodAll enc P W' 0 sp true f.params.toList args.toList (s.fn H (ds ++ gs)).args pa)
    (hvars : ∀ sp : Nat → Bool, (∀ p ∈ before, sp p.block = true) → DataW.TrodVars enc P W' sp s.vars (s.fn H (ds ++ gs)).vars pv)
    (hps : before = pa ++ pv) (hb : Below W.heap.size W W') : s.post enc P f apart fresh handsOn false W args v W' :=
  ⟨ds, gs, before, [], pa, pv, hW, hres _ _ _, hargs _ (fun p hp => by simpa using hW.lt p hp), hvars _ (fun p hp => by simpa using hW.lt p hp),
    World.keptBut_mono (fun p hp => ⟨hp, .inr (by rw [hps, List.mem_append] at hp; exact hp)⟩) (hb.frame (· ∈ before)), fun h => by cases h⟩
end Go.Proofs.YtcnpkijjnbhagaaGreatDoor
