/- The law Parts answers true: the tied card of the statement PartsCardSaid, closed. No condition beyond the given row's own. -/
import Derived.Test.YtcnpkijjnbhagaaGreatDoorBoth
import Derived.Test.YtcnpkijjnbhagaaGreatDoorLparts2
import Derived.Test.YtcnpkijjnbhagaaGreatDoorUpto
namespace Go.Proofs.YtcnpkijjnbhagaaGreatDoor
open Go.ChangeShapes Go.WideShapes Go.ChangeAt Go.RowKit

def POut (w : World) (e : Ending) (w' : World) : Prop := e = .returned (.bool true) ∧ Below w.heap.size w w'
theorem plays_parts (a m : Int) (s : ByteArray) (E : Value) (W : World) (hs : s.size ≤ maxLen) (hm : W.cell? ⟨8, 0, none⟩ = some (.int .i64 m)) :
    Calls Tryz.prog 7 #[.agg #[.int .i64 4, .int .i64 a, .string s, E]] W (TruePost W) := by
  have HM : Hid (W.cell? ⟨8, 0, none⟩ = some (.int .i64 m)) := hm
  have hMs : 8 < W.heap.size := World.block_lt_of_cell? W ⟨8, 0, none⟩ hm
  clear hm
  go_enter Tryz.func7, Tryz.ntmps7
  go_wp2_with fail
  refine (lparts_any _ _ m s _ _ hs ((World.cell?_alloc_lt W _ ⟨8, 0, none⟩ hMs).trans HM.out)).mono ?_
  rintro e w2 ⟨rfl, hB⟩
  go_wp2
  go_ret
  exact ⟨rfl, ((Below.refl W.heap.size W).alloc (Nat.le_refl _) _).trans (hB.mono (by simp))⟩
theorem law_parts (v : Value) (W : World) (h : Calls Tryz.prog 6 #[v, .int .i64 4, .int .i64 4] W (UPost W)) :
    Calls Tryz.prog 4 #[v] W (POut W) := by
  have HP := Lib.hid h
  clear h
  go_enter Tryz.func4, Tryz.ntmps4
  go_wp2_with fail
  refine HP.out.mono ?_
  rintro e w2 ⟨rfl, hB⟩
  go_wp2
  go_ret
  exact ⟨rfl, hB⟩

set_option maxRecDepth 100000 in
theorem parts_lifted (os : Os) (started : os.Started) (H : Type) (enc : TypeId × Value → H) :
    ReturnsInHanded {} Tryz.checked os 4 .any (fun w args => (Rows.partsSpec.pre enc Tryz.prog Tryz.f4 [] false w args ∧ laidMetH Tryz.prog Rows.partsRow.laid w) ∧ sizedMet enc Tryz.prog Tryz.f4 (OpenSpec.ofChange Rows.partsSpec) false w args)
      (Rows.partsSpec.post enc Tryz.prog Tryz.f4 false true false false) := by
  refine handed_both (C := Tryz.checked) (X := fun w _ => laidMetH Tryz.prog Rows.partsRow.laid w) (fun _ _ _ hh h => h.of_heap hh) Tryz.own started (by kernel_rfl) Tryz.func4
    (ChangeSpec.witness_shaped (enc := enc) (C := Tryz.checked) (os := os) (X := fun w _ => laidMetH Tryz.prog Rows.partsRow.laid w) false (doorW os) #[.slice none 0 0] 8 rfl (World.shaped_of_RefB (by kernel_rfl) (by kernel_rfl)) (by kernel_rfl) (by kernel_rfl) (by kernel_rfl) (door_met os _)) ?_
  intro W base args ds gs before hval0 hW _ hsh
  have hval : ∀ (j : Nat) t v, Tryz.f4.params[j]? = some t → args[j]? = some v → Value.okWide Tryz.prog W .any base t v := hval0
  have hW' := hW
  obtain ⟨p, q, hA0, hV, rfl, hfz, hnd⟩ := hW
  have hA : DataW.TrodAll enc Tryz.prog W 0 (fun _ => true) true Tryz.f4.params.toList args.toList ds p := hA0
  rw [Tryz.params4] at hA hval
  obtain ⟨v0, d0, rfl, rfl, h0⟩ := trodAll_one hA
  obtain ⟨rfl, rfl⟩ := trodVars_none hV
  obtain ⟨m, hm⟩ := maxlen_cell hsh
  have hlt : ∀ x ∈ p, x.block < W.heap.size := fun x hx => by simpa using hW'.lt x (by simpa using hx)
  have hMs : 8 < W.heap.size := World.block_lt_of_cell? W ⟨8, 0, none⟩ hm
  have hc : Calls Tryz.prog 4 #[v0] W (POut W) := by
    rcases open_steps (hval 0 22 v0 rfl rfl) h0 with rfl | ⟨g, o, n, c, _, _, rfl, hn, _, _, hS⟩
    · exact law_parts _ W (upto_nil 4 W)
    · refine law_parts _ W (upto_some 4 g o n c W hn fun k hk => ?_)
      obtain ⟨kd, a, s, u, f, y0, y1, y2, y3, c0, c1, c2, c3, hz, h3, _, _⟩ := hS k hk
      obtain ⟨eo, en, ec, rfl⟩ := eds_slice h3
      refine ⟨kd, a, s, eo, en, ec, c0, c1, c2, c3, fun hK W' hB => ?_⟩
      subst hK
      exact plays_parts a m s _ W' hz ((hB.cell hMs).trans hm)
  refine hc.mono fun e W' ⟨he, hb⟩ => ?_
  subst he
  refine ⟨_, rfl, post_below (pa := p) (pv := []) hW' (fun _ _ _ => trodAll_mk1 (shut_bool Tryz.underlying4 true)) (fun sp hsp => ?_) (fun _ _ => rfl) rfl hb⟩
  exact trodAll_mk1 (WideElems.Trod_stays Tryz.laidOut (by kernel_rfl) (of_decide_eq_true (by kernel_rfl)) h0 (fun x hx => hb.same (hlt x hx)) (fun x hx => hsp x (by simpa using hx)))

theorem parts_holds : Rows.PartsSaid :=
  OpenClaim.holds_of_wide 4 Tryz.f4 rfl rfl rfl rfl rfl rfl rfl ⟨rfl, rfl, rfl, rfl, rfl⟩ rfl rfl rfl rfl rfl (by kernel_rfl) Tryz.func4 (by kernel_rfl)
    (of_decide_eq_true (by kernel_rfl)) (by unfold Func.isWrapper; rw [if_neg (of_decide_eq_false (by kernel_rfl))]; exact ⟨rfl, rfl⟩)
    (fun os started H enc _ => parts_lifted os started H enc)

theorem partsCard_holds : Rows.PartsCardSaid :=
  Claim7.holds_tied_plain_at .later [] _ _ _ _
    parts_holds (fun _ h => by cases h) (by kernel_rfl) (fun _ h => by cases h) parts_row_tie rfl ⟨rfl, rfl⟩ (by kernel_rfl) rfl
    (fun f fn hf hfn => by
      obtain rfl : f = 4 := Option.some.inj ((show Tryz.prog.funcNamed "bidiguard/bidiguardlaw.Parts" = some 4 by kernel_rfl).symm.trans hf) |>.symm
      obtain rfl : fn = Tryz.f4 := (Option.some.inj (Tryz.func4.symm.trans hfn)).symm
      exact ⟨by kernel_rfl, fun j t ht => by
        rw [Tryz.params4] at ht
        match j, ht with
        | 0, ht => simp at ht; subst ht; exact (show Tryz.prog.wantsStandIn 22 = false by kernel_rfl)
        | j + 1, ht => simp at ht⟩)
    (by kernel_rfl)
#print axioms partsCard_holds
end Go.Proofs.YtcnpkijjnbhagaaGreatDoor
