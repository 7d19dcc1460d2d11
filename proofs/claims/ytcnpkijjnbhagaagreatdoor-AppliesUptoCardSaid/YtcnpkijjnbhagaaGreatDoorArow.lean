/- The law Applies answers true, where what it reads is of bulk at most 1048576: the tied card of the statement AppliesUptoCardSaid, closed. -/
import Derived.Test.YtcnpkijjnbhagaaGreatDoorBoth
import Derived.Test.YtcnpkijjnbhagaaGreatDoorApplied
import Derived.Test.YtcnpkijjnbhagaaGreatDoorUpto
import Derived.Test.YtcnpkijjnbhagaaGreatDoorEds
import Derived.Deep.DeepHandedRow
import Derived.Deep.DeepWitnessRowRef
namespace Go.Proofs.YtcnpkijjnbhagaaGreatDoor
open Go.ChangeShapes Go.WideShapes Go.ChangeAt Go.RowKit

def AOut (w : World) (e : Ending) (w' : World) : Prop := e = .returned (.bool true) ∧ Below w.heap.size w w'
theorem plays_applies (a : Int) (s : ByteArray) (es : List Ed) (vo : Option Addr) (c : Nat) (W : World) (hs : s.size + totE es ≤ 1048576) (hn : es.length ≤ 1048576) (hE : EdsAt W vo es) :
    Calls Tryz.prog 7 #[.agg #[.int .i64 7, .int .i64 a, .string s, .slice vo es.length c]] W (TruePost W) := by
  have hB0 : Below W.heap.size W (W.alloc (.cells #[.int .i64 7, .int .i64 a, .string s, .slice vo es.length c] 27)) := (Below.refl W.heap.size W).alloc (Nat.le_refl _) _
  have HA := Lib.hid (applied_any 7 a s es vo c _ hs hn (hE.below hB0 rfl))
  clear hE
  go_enter Tryz.func7, Tryz.ntmps7
  go_wp2_with fail
  refine HA.out.mono ?_
  rintro e w2 ⟨rfl, hB⟩
  go_wp2
  go_ret
  exact ⟨rfl, hB0.trans (hB.mono (by simp))⟩
theorem law_applies (v : Value) (W : World) (h : Calls Tryz.prog 6 #[v, .int .i64 7, .int .i64 7] W (UPost W)) :
    Calls Tryz.prog 5 #[v] W (AOut W) := by
  have HP := Lib.hid h
  clear h
  go_enter Tryz.func5, Tryz.ntmps5
  go_wp2_with fail
  refine HP.out.mono ?_
  rintro e w2 ⟨rfl, hB⟩
  go_wp2
  go_ret
  exact ⟨rfl, hB⟩
theorem bulk_step {H : Type} {n m k : Nat} {D : Nat → DataW H} {d0 : DataW H} {y0 y1 y2 y3 : DataW H × List MemPlace} {s : ByteArray} (hc : Rows.uptoSmall H [d0] = true) (hd : d0 = .slice ((List.range n).map D) ((List.range (m - n)).map fun j => D (n + j)))
    (hk : k < n) (hD : D k = .agg [y0.1, y1.1, y2.1, y3.1]) (h2 : y2.1 = .lit (.string s.data.toList)) : s.size + Rows.uptoBulk y3.1 ≤ 1048576 := by
  subst hd
  have h1 : Rows.uptoBulkAll [DataW.slice ((List.range n).map D) ((List.range (m - n)).map fun j => D (n + j))] ≤ 1048576 := of_decide_eq_true hc
  have h3 : Rows.uptoBulk (D k) ≤ Rows.uptoBulkAll ((List.range n).map D) := bulk_mem (List.mem_map_of_mem (List.mem_range.2 hk))
  have hs : s.data.toList.length = s.size := by simp
  rw [hD] at h3
  simp only [Rows.uptoBulk, Rows.uptoBulkAll, h2, hs] at h1 h3
  omega

set_option maxRecDepth 100000 in
theorem applies_lifted (os : Os) (started : os.Started) (H : Type) (enc : TypeId × Value → H) (F : Stop.Interp) :
    ReturnsInHanded {} Tryz.checked os 5 .any ((Rows.OpenSpec.upto Rows.appliesSpec).preRow enc Tryz.prog Tryz.f5 Rows.appliesUptoRow.domain false Rows.appliesUptoRow.laid)
      (((Rows.OpenSpec.upto Rows.appliesSpec).at F).post enc Tryz.prog Tryz.f5 false true false false) := by
  obtain ⟨places, hx⟩ : ∃ places, DataW.whole enc Tryz.prog ((doorW os).forCall (fun _ _ => 0) ⟨#[], #[.slice none 0 0], []⟩).memory Tryz.f5.params.toList Rows.appliesSpec.vars false #[Value.slice none 0 0].toList 8 = some ([.nil], [], places) := ⟨[], by kernel_rfl⟩
  refine returnsInHanded_of_row (C := Tryz.checked) (s := Rows.OpenSpec.upto Rows.appliesSpec) Tryz.own started (by kernel_rfl) Tryz.func5
    (witness_row_atRef (enc := enc) (C := Tryz.checked) false (doorW os) #[.slice none 0 0] rfl (by kernel_rfl) (by kernel_rfl) (by kernel_rfl)
      (OpenSpec.preRow_of_cond 8 hx (by kernel_rfl) (fun k hk => by cases hk; kernel_rfl) (by kernel_rfl) (door_met os _))) ?_
  intro W base args ds gs before hval0 hW _ hcond _ _ _ _
  have hval : ∀ (j : Nat) t v, Tryz.f5.params[j]? = some t → args[j]? = some v → Value.okWide Tryz.prog W .any base t v := hval0
  have hc0 : Rows.uptoSmall H (ds ++ gs) = true := hcond _ rfl
  have hW' : DataW.Whole enc Tryz.prog Tryz.f5.params.toList Rows.appliesSpec.vars false W args.toList ds gs before := hW
  obtain ⟨p, q, hA0, hV, rfl, hfz, hnd⟩ := hW'
  have hW' : DataW.Whole enc Tryz.prog Tryz.f5.params.toList Rows.appliesSpec.vars false W args.toList ds gs (p ++ q) := hW
  have hA : DataW.TrodAll enc Tryz.prog W 0 (fun _ => true) true Tryz.f5.params.toList args.toList ds p := hA0
  rw [Tryz.params5] at hA hval
  obtain ⟨v0, d0, rfl, rfl, h0⟩ := trodAll_one hA
  obtain ⟨rfl, rfl⟩ := trodVars_none hV
  have hlt : ∀ x ∈ p, x.block < W.heap.size := fun x hx => by simpa using hW'.lt x (by simpa using hx)
  have hc : Calls Tryz.prog 5 #[v0] W (AOut W) := by
    rcases open_steps (hval 0 22 v0 rfl rfl) h0 with rfl | ⟨g, o, n, c, m, D, rfl, hn, _, hd, hS⟩
    · exact law_applies _ W (upto_nil 7 W)
    · refine law_applies _ W (upto_some 7 g o n c W hn fun k hk => ?_)
      obtain ⟨kd, a, s, u, f, y0, y1, y2, y3, c0, c1, c2, c3, hz, h3, hD, h2⟩ := hS k hk
      obtain ⟨vo, es, ec, rfl, hE, hb⟩ := eds_open h3
      have hbs := bulk_step (m := m) hc0 hd hk hD h2
      refine ⟨kd, a, s, vo, es.length, ec, c0, c1, c2, c3, fun hK W' hB => ?_⟩
      subst hK
      exact plays_applies a s es vo ec W' (by omega) (by omega) (hE.below hB rfl)
  refine hc.mono fun e W' ⟨he, hb⟩ => ?_
  subst he
  refine ⟨_, rfl, post_below (s := Rows.appliesSpec) (pa := p) (pv := []) hW' (fun _ _ _ => trodAll_mk1 (shut_bool Tryz.underlying4 true)) (fun sp hsp => ?_) (fun _ _ => rfl) rfl hb⟩
  exact trodAll_mk1 (WideElems.Trod_stays Tryz.laidOut (by kernel_rfl) (of_decide_eq_true (by kernel_rfl)) h0 (fun x hx => hb.same (hlt x hx)) (fun x hx => hsp x (by simpa using hx)))

theorem applies_holds : Rows.AppliesUptoSaid :=
  OpenClaim.holds_of_cond 5 Tryz.f5 rfl rfl rfl rfl rfl rfl rfl ⟨rfl, rfl, rfl, rfl, rfl⟩ rfl rfl rfl rfl rfl (by kernel_rfl) Tryz.func5 (by kernel_rfl)
    (of_decide_eq_true (by kernel_rfl)) (by unfold Func.isWrapper; rw [if_neg (of_decide_eq_false (by kernel_rfl))]; exact ⟨rfl, rfl⟩)
    (fun os started H enc _ F => by rw [OpenClaim.pre_eq_preRow]; exact applies_lifted os started H enc F)

theorem appliesUptoCard_holds : Rows.AppliesUptoCardSaid :=
  Claim7.holds_tied_plain_at .later [] _ _ _ _
    applies_holds (fun _ h => by cases h) (by kernel_rfl) (fun _ h => by cases h) appliesUpto_row_tie rfl ⟨rfl, rfl⟩ (by kernel_rfl) rfl
    (fun f fn hf hfn => by
      obtain rfl : f = 5 := Option.some.inj ((show Tryz.prog.funcNamed "bidiguard/bidiguardlaw.Applies" = some 5 by kernel_rfl).symm.trans hf) |>.symm
      obtain rfl : fn = Tryz.f5 := (Option.some.inj (Tryz.func5.symm.trans hfn)).symm
      exact ⟨by kernel_rfl, fun j t ht => by
        rw [Tryz.params5] at ht
        match j, ht with
        | 0, ht => simp at ht; subst ht; exact (show Tryz.prog.wantsStandIn 22 = false by kernel_rfl)
        | j + 1, ht => simp at ht⟩)
    (by kernel_rfl)
#print axioms appliesUptoCard_holds
end Go.Proofs.YtcnpkijjnbhagaaGreatDoor
