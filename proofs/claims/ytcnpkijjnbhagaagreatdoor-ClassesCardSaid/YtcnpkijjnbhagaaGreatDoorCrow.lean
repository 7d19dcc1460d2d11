/- The law Classes answers true: the tied card of the statement ClassesCardSaid, closed. No condition beyond the given row's own. -/
import Derived.Test.YtcnpkijjnbhagaaGreatDoorCenv
namespace Go.Proofs.YtcnpkijjnbhagaaGreatDoor
open Go.ChangeShapes Go.WideShapes Go.ChangeAt Go.RowKit

def COut (w : World) (e : Ending) (w' : World) : Prop := e = .returned (.bool true) ∧ Below w.heap.size w w'
theorem law_classes (v : Value) (W : World) (h : Calls Tryz.prog 6 #[v, .int .i64 1, .int .i64 1] W (UPost W)) :
    Calls Tryz.prog 3 #[v] W (COut W) := by
  have HP := Lib.hid h
  clear h
  go_enter Tryz.func3, Tryz.ntmps3
  go_wp2_with fail
  refine HP.out.mono ?_
  rintro e w2 ⟨rfl, hB⟩
  go_wp2
  go_ret
  exact ⟨rfl, hB⟩

set_option maxRecDepth 100000 in
theorem classes_lifted (os : Os) (started : os.Started) (H : Type) (enc : TypeId × Value → H) :
    ReturnsInHanded {} Tryz.checked os 3 .any (fun w args => (Rows.classesSpec.pre enc Tryz.prog Tryz.f3 [] false w args ∧ laidMetH Tryz.prog Rows.classesRow.laid w) ∧ sizedMet enc Tryz.prog Tryz.f3 (OpenSpec.ofChange Rows.classesSpec) false w args)
      (Rows.classesSpec.post enc Tryz.prog Tryz.f3 false true false false) := by
  refine handed_both (C := Tryz.checked) (X := fun w _ => laidMetH Tryz.prog Rows.classesRow.laid w) (fun _ _ _ hh h => h.of_heap hh) Tryz.own started (by kernel_rfl) Tryz.func3
    (ChangeSpec.witness_shaped (enc := enc) (C := Tryz.checked) (os := os) (X := fun w _ => laidMetH Tryz.prog Rows.classesRow.laid w) false (doorW os) #[.slice none 0 0] 8 rfl (World.shaped_of_RefB (by kernel_rfl) (by kernel_rfl)) (by kernel_rfl) (by kernel_rfl) (by kernel_rfl) (show laidMetH Tryz.prog Rows.classesRow.laid _ from door_met os _)) ?_
  intro W base args ds gs before hval0 hW hL _
  have hval : ∀ (j : Nat) t v, Tryz.f3.params[j]? = some t → args[j]? = some v → Value.okWide Tryz.prog W .any base t v := hval0
  have hW' := hW
  obtain ⟨p, q, hA0, hV, rfl, hfz, hnd⟩ := hW
  have hA : DataW.TrodAll enc Tryz.prog W 0 (fun _ => true) true Tryz.f3.params.toList args.toList ds p := hA0
  rw [Tryz.params3] at hA hval
  obtain ⟨v0, d0, rfl, rfl, h0⟩ := trodAll_one hA
  obtain ⟨rfl, rfl⟩ := trodVars_none hV
  obtain ⟨a0, a1, a2, tb, tt, cap, hEnv⟩ := env_of_laid hL
  have hlt : ∀ x ∈ p, x.block < W.heap.size := fun x hx => by simpa using hW'.lt x (by simpa using hx)
  have hc : Calls Tryz.prog 3 #[v0] W (COut W) := by
    rcases open_steps (hval 0 22 v0 rfl rfl) h0 with rfl | ⟨g, o, n, c, _, _, rfl, hn, _, _, hS⟩
    · exact law_classes _ W (upto_nil 1 W)
    · refine law_classes _ W (upto_some 1 g o n c W hn fun k hk => ?_)
      obtain ⟨kd, a, s, u, f, y0, y1, y2, y3, c0, c1, c2, c3, hz, h3, _, _⟩ := hS k hk
      obtain ⟨eo, en, ec, rfl⟩ := eds_slice h3
      refine ⟨kd, a, s, eo, en, ec, c0, c1, c2, c3, fun hK W' hB => ?_⟩
      subst hK
      exact plays_classes a s _ a0 a1 a2 tb tt cap W' (hEnv.below hB (Nat.le_refl _))
  refine hc.mono fun e W' ⟨he, hb⟩ => ?_
  subst he
  refine ⟨_, rfl, post_below (pa := p) (pv := []) hW' (fun _ _ _ => trodAll_mk1 (shut_bool Tryz.underlying4 true)) (fun sp hsp => ?_) (fun _ _ => rfl) rfl hb⟩
  exact trodAll_mk1 (WideElems.Trod_stays Tryz.laidOut (by kernel_rfl) (of_decide_eq_true (by kernel_rfl)) h0 (fun x hx => hb.same (hlt x hx)) (fun x hx => hsp x (by simpa using hx)))

theorem classes_holds : Rows.ClassesSaid :=
  OpenClaim.holds_of_wide 3 Tryz.f3 rfl rfl rfl rfl rfl rfl rfl ⟨rfl, rfl, rfl, rfl, rfl⟩ rfl rfl rfl rfl rfl (by kernel_rfl) Tryz.func3 (by kernel_rfl)
    (of_decide_eq_true (by kernel_rfl)) (by unfold Func.isWrapper; rw [if_neg (of_decide_eq_false (by kernel_rfl))]; exact ⟨rfl, rfl⟩)
    (fun os started H enc _ => classes_lifted os started H enc)

theorem classesCard_holds : Rows.ClassesCardSaid :=
  Claim7.holds_tied_plain_at .later [] _ _ _ _
    classes_holds (fun _ h => by cases h) (by kernel_rfl) (fun _ h => by cases h) classes_row_tie rfl ⟨rfl, rfl⟩ (by kernel_rfl) rfl
    (fun f fn hf hfn => by
      obtain rfl : f = 3 := Option.some.inj ((show Tryz.prog.funcNamed "bidiguard/bidiguardlaw.Classes" = some 3 by kernel_rfl).symm.trans hf) |>.symm
      obtain rfl : fn = Tryz.f3 := (Option.some.inj (Tryz.func3.symm.trans hfn)).symm
      exact ⟨by kernel_rfl, fun j t ht => by
        rw [Tryz.params3] at ht
        match j, ht with
        | 0, ht => simp at ht; subst ht; exact (show Tryz.prog.wantsStandIn 22 = false by kernel_rfl)
        | j + 1, ht => simp at ht⟩)
    (by kernel_rfl)
#print axioms classesCard_holds
end Go.Proofs.YtcnpkijjnbhagaaGreatDoor
