/- What the row's listed variables hold when the call begins: all that the walk of a line's classes asks of the memory. -/
import Derived.Test.YtcnpkijjnbhagaaGreatDoorBoth
import Derived.Test.YtcnpkijjnbhagaaGreatDoorCnum
import Derived.Lib.LaidU8T
namespace Go.Proofs.YtcnpkijjnbhagaaGreatDoor
open Go.ChangeShapes Go.WideShapes Go.ChangeAt Go.RowKit Go.Lib Go.Deep

theorem Tryz.u8x : U8Extra Tryz.prog Tryz.lays196_ren := { n3 := by kernel_rfl, n4 := by kernel_rfl, y3 := by kernel_rfl, y4 := by kernel_rfl, c5 := by kernel_rfl, c119 := by kernel_rfl, c138 := by kernel_rfl }
theorem tabs_of_reads {W : World} (h3 : VarReads Tryz.prog W "unicode/utf8.first" Rows.laid_unicode_utf8_first) (h4 : VarReads Tryz.prog W "unicode/utf8.acceptRanges" Rows.laid_unicode_utf8_acceptRanges) : Lib.Utf8Tabs 6 7 W :=
  utf8Tabs_of_readsT (U8Types.of196 Tryz.lays196) Tryz.u8x (by rw [show firstData = Rows.laid_unicode_utf8_first by kernel_rfl]; exact h3) (by rw [show acceptData = Rows.laid_unicode_utf8_acceptRanges by kernel_rfl]; exact h4)
def tabD : List (DataW Unit) := tabL.map fun e => .agg [.lit (.int .i32 e.1), .lit (.int .i32 e.2.1), .lit (.int .i64 e.2.2)]
theorem tab_data : Rows.laid_bidiguard_uba_table = .slice tabD [] := by kernel_rfl
theorem Tryz.cells_i32 : Tryz.prog.cellsOf 21 = 1 := by kernel_rfl
theorem Tryz.cells_class : Tryz.prog.cellsOf 77 = 1 := by kernel_rfl
theorem Tryz.cells_span : Tryz.prog.cellsOf 130 = 3 := by kernel_rfl
theorem take3 {cs : List Value} {a b c : Value} (hl : cs.length = 3) (h0 : (cs.drop 0).take 1 = [a]) (h1 : (cs.drop 1).take 1 = [b]) (h2 : (cs.drop 2).take 1 = [c]) : cs = [a, b, c] := by
  match cs, hl with
  | [w, x, y], _ => simp at h0 h1 h2; simp [h0, h1, h2]
set_option maxRecDepth 100000 in
theorem tab_of_reads {W : World} (h : VarReads Tryz.prog W "bidiguard/uba.table" Rows.laid_bidiguard_uba_table) : ∃ tb tt cap, TabAt W tb tt cap := by
  rw [tab_data] at h
  obtain ⟨g, t, cs, fuel, p, hg, ht, hv, hd⟩ := h
  obtain rfl := Option.some.inj ((show Tryz.prog.globalNamed "bidiguard/uba.table" = some 3 by kernel_rfl).symm.trans hg)
  obtain rfl := Option.some.inj ((show (Tryz.prog.globals[3]?).map (·.type) = some 128 by kernel_rfl).symm.trans ht)
  rcases open_slice Tryz.underlying128 hd with ⟨_, h1⟩ | ⟨a, len, cap, m, n, D, Pl, h0, _, hl, hm, hmm, hxx, hx⟩
  · injection h1 with h1 _
    cases h1
  · have h1 : DataW.slice tabD [] = .slice ((List.range len).map D) ((List.range (m - len)).map fun j => D (len + j)) := congrArg (·.1) hxx
    injection h1 with h1 _
    have hlen : len = 36 := by
      have := congrArg List.length h1
      simp [tabD, tab_len] at this
      omega
    subst hlen
    have hm36 : 36 ≤ m := by subst hmm; exact hl
    have hrow : ∀ k (h : k < 36), ∀ j u, [Value.int .i32 (tabL[k]'(by rw [tab_len]; exact h)).1, .int .i32 (tabL[k]'(by rw [tab_len]; exact h)).2.1, .int .i64 (tabL[k]'(by rw [tab_len]; exact h)).2.2][j]? = some u → W.cell? ((a.add (k * 3)).add j) = some u := by
      intro k hk j u hu
      obtain ⟨cs', hc, htr⟩ := hx k (by omega)
      rw [Tryz.cells_span] at hc
      have hDk : D k = .agg [.lit (.int .i32 (tabL[k]'(by rw [tab_len]; exact hk)).1), .lit (.int .i32 (tabL[k]'(by rw [tab_len]; exact hk)).2.1), .lit (.int .i64 (tabL[k]'(by rw [tab_len]; exact hk)).2.2)] := by
        have := congrArg (fun l => l[k]?) h1
        simp only [tabD, List.getElem?_map, List.getElem?_range hk, List.getElem?_eq_getElem (show k < tabL.length by rw [tab_len]; exact hk), Option.map_some, Option.some.injEq] at this
        exact this.symm
      obtain ⟨y0, y1, y2, n', hy, hlen, k0, k1, k2⟩ := Deep.trod_struct3 Tryz.underlying130 htr
      obtain ⟨z0, e0, f0, _⟩ := DataW.trod_int Tryz.underlying21 k0
      obtain ⟨z1, e1, f1, _⟩ := DataW.trod_int Tryz.underlying21 k1
      obtain ⟨z2, e2, f2, _⟩ := DataW.trod_int Tryz.underlying77 k2
      have hy1 : D k = .agg [y0.1, y1.1, y2.1] := congrArg (·.1) hy
      rw [hDk, f0, f1, f2] at hy1
      simp only [DataW.agg.injEq, List.cons.injEq, DataW.lit.injEq, Lit.int.injEq, true_and, and_true] at hy1
      obtain ⟨q0, q1, q2⟩ := hy1
      rw [Tryz.cells_span] at hlen
      have e0' : (cs'.drop 0).take (Tryz.prog.cellsOf 21) = [.int .i32 z0] := e0
      have e1' : (cs'.drop 1).take (Tryz.prog.cellsOf 21) = [.int .i32 z1] := e1
      have e2' : (cs'.drop 2).take (Tryz.prog.cellsOf 77) = [.int .i64 z2] := e2
      rw [Tryz.cells_i32] at e0' e1'
      rw [Tryz.cells_class] at e2'
      have hcs := take3 hlen e0' e1' e2'
      rw [← q0, ← q1, ← q2] at hcs
      subst hcs
      obtain ⟨_, _, hat⟩ := World.cells?_some hc
      have hj : j < 3 := by
        rcases Nat.lt_or_ge j 3 with h' | h'
        · exact h'
        · rw [List.getElem?_eq_none (by simpa using h')] at hu; cases hu
      exact (hat j hj).trans hu
    have hsp : a.spot = none := by
      have := World.cell?_spot (hrow 0 (by omega) 0 _ rfl)
      simpa [Addr.add] using this
    refine ⟨a.block, a.off, cap, ?_, fun k hk => ?_⟩
    · have := World.var?_cell hg hv 0
      rw [show (⟨a.block, a.off, none⟩ : Addr) = a from by rw [← hsp]]
      have hz : cs[0]? = some (.slice (some a) 36 cap) := by
        have := congrArg (fun l => l[0]?) h0
        simpa using this
      rw [this]
      simpa using hz
    · have c0 := hrow k hk 0 _ rfl
      have c1 := hrow k hk 1 _ rfl
      have c2 := hrow k hk 2 _ rfl
      rw [Deep.add_add, add_none a hsp] at c0 c1 c2
      refine ⟨by simpa using c0, ?_, ?_⟩
      · rw [← Nat.add_assoc] at c1; simpa using c1
      · rw [← Nat.add_assoc] at c2; simpa using c2
theorem Tryz.star : "*" ++ "errors.errorString" = "*errors.errorString" := by decide
theorem Tryz.cells_es : Tryz.prog.cellsOf 286 = 1 := by kernel_rfl
theorem Tryz.rowE (u : TypeId) (h : Tryz.prog.typeName? 3 u = some "*errors.errorString") : u = 268 :=
  typeName_ptr_named (nm := "errors.errorString") (by rw [Tryz.star]; kernel_rfl) (by kernel_rfl) (by decide) u (by rw [Tryz.star]; exact h)
theorem Tryz.gE0 : Tryz.prog.globalNamed "bidiguard/guard.ErrLong" = some 0 := by kernel_rfl
theorem Tryz.gE1 : Tryz.prog.globalNamed "bidiguard/guard.ErrText" = some 1 := by kernel_rfl
theorem Tryz.gE2 : Tryz.prog.globalNamed "bidiguard/guard.ErrCode" = some 2 := by kernel_rfl
theorem Tryz.gtE0 : (Tryz.prog.globals[0]?).map (·.type) = some 42 := by kernel_rfl
theorem Tryz.gtE1 : (Tryz.prog.globals[1]?).map (·.type) = some 42 := by kernel_rfl
theorem Tryz.gtE2 : (Tryz.prog.globals[2]?).map (·.type) = some 42 := by kernel_rfl
/-- The one type that is called error. -/
theorem Tryz.errorNamed (ty : Nat) (hlt : ty < Tryz.prog.types.size) (h : Tryz.prog.rowNamed ty [101, 114, 114, 111, 114] = true) : ty = 42 := by
  have hall : ((List.range Tryz.prog.types.size).all fun t => !(Tryz.prog.rowNamed t [101, 114, 114, 111, 114]) || t == 42) = true := by kernel_rfl
  have := List.all_eq_true.1 hall ty (List.mem_range.2 hlt)
  rw [h] at this
  simpa using this
set_option maxRecDepth 100000 in
theorem env_of_laid {W : World} (h : laidMetH Tryz.prog Rows.classesRow.laid W) : ∃ a0 a1 a2 tb tt cap, Env W a0 a1 a2 tb tt cap := by
  have hl : laidMet Tryz.prog [("bidiguard/uba.table", Rows.laid_bidiguard_uba_table), ("unicode/utf8.acceptRanges", Rows.laid_unicode_utf8_acceptRanges), ("bidiguard/guard.ErrLong", Rows.laid_bidiguard_guard_ErrLong), ("bidiguard/guard.ErrText", Rows.laid_bidiguard_guard_ErrText), ("bidiguard/guard.ErrCode", Rows.laid_bidiguard_guard_ErrCode), ("unicode/utf8.first", Rows.laid_unicode_utf8_first)] W :=
    (show laidMet Tryz.prog _ W ∧ handlesMet Tryz.prog [("errors.errorType", Rows.laid_errors_errorType)] W from h).1
  have hh : handlesMet Tryz.prog [("errors.errorType", Rows.laid_errors_errorType)] W := (show laidMet Tryz.prog [("bidiguard/uba.table", Rows.laid_bidiguard_uba_table), ("unicode/utf8.acceptRanges", Rows.laid_unicode_utf8_acceptRanges), ("bidiguard/guard.ErrLong", Rows.laid_bidiguard_guard_ErrLong), ("bidiguard/guard.ErrText", Rows.laid_bidiguard_guard_ErrText), ("bidiguard/guard.ErrCode", Rows.laid_bidiguard_guard_ErrCode), ("unicode/utf8.first", Rows.laid_unicode_utf8_first)] W ∧ handlesMet Tryz.prog [("errors.errorType", Rows.laid_errors_errorType)] W from h).2
  obtain ⟨tb, tt, cap, hTab⟩ := tab_of_reads (laidMet.reads hl (by simp))
  have hU := tabs_of_reads (laidMet.reads hl (n := "unicode/utf8.first") (by simp)) (laidMet.reads hl (n := "unicode/utf8.acceptRanges") (by simp))
  have hge : W.cell? ⟨4, 0, none⟩ = some (.iface 201 (.agg #[.pointer (some ⟨10, 42, none⟩)])) := by
    have := hh _ (List.mem_cons_self ..)
    obtain ⟨name, u, ty, e1, e2, e3, e4, e5⟩ := (show ∃ name u ty, Rows.laid_errors_errorType.handleName? = some name ∧ (Tryz.prog.cutTypes.find? (·.1 == "internal/reflectlite.rtype")).map (·.2) = some u ∧ ty < Tryz.prog.types.size ∧ Tryz.prog.rowNamed ty name = true ∧
      W.var? Tryz.prog "errors.errorType" = some #[.iface u (.agg #[typeHandle Tryz.prog ty])] from this)
    obtain rfl := Option.some.inj ((show Rows.laid_errors_errorType.handleName? = some [101, 114, 114, 111, 114] by kernel_rfl).symm.trans e1)
    obtain rfl := Option.some.inj ((show (Tryz.prog.cutTypes.find? (·.1 == "internal/reflectlite.rtype")).map (·.2) = some 201 by kernel_rfl).symm.trans e2)
    obtain rfl := Tryz.errorNamed ty e3 e4
    have h1 := World.var?_cell (show Tryz.prog.globalNamed "errors.errorType" = some 4 by kernel_rfl) e5 0
    rw [h1]
    rfl
  obtain ⟨ps, ⟨gt, tyt, cst, ft, pt, qt, hgt, htt, hvt, hdt, ⟨ga, tya, csa, fa, pa, qa, hga, hta, hva, hda, ⟨g0, t0, cs0, f0, p0, q0, hg0, ht0, hv0, hd0, ⟨g1, t1, cs1, f1, p1, q1, hg1, ht1, hv1, hd1, ⟨g2, t2, cs2, f2, p2, q2, hg2, ht2, hv2, hd2, ⟨gf, tyf, csf, ff, pf, qf, hgf, htf, hvf, hdf, hqf, ef⟩, e2⟩, e1⟩, e0⟩, ea⟩, et⟩, hnd, hrows⟩ := hl
  obtain rfl := Option.some.inj (Tryz.gE0.symm.trans hg0)
  obtain rfl := Option.some.inj (Tryz.gE1.symm.trans hg1)
  obtain rfl := Option.some.inj (Tryz.gE2.symm.trans hg2)
  obtain rfl := Option.some.inj (Tryz.gtE0.symm.trans ht0)
  obtain rfl := Option.some.inj (Tryz.gtE1.symm.trans ht1)
  obtain rfl := Option.some.inj (Tryz.gtE2.symm.trans ht2)
  clear hdt hda hdf
  subst ef
  subst e2
  subst e1
  subst e0
  subst ea
  subst et
  obtain ⟨l0⟩ := cs0
  obtain ⟨l1⟩ := cs1
  obtain ⟨l2⟩ := cs2
  have ok0 : ∀ u v, l0 = [.iface u v] → Value.okWide Tryz.prog W .any 0 u v := fun u v e => by
    subst e
    exact (hrows 0 0 (by simp [MemPlace.row])).2 u v (by simpa using World.var?_cell hg0 hv0 0)
  have ok1 : ∀ u v, l1 = [.iface u v] → Value.okWide Tryz.prog W .any 0 u v := fun u v e => by
    subst e
    exact (hrows 1 0 (by simp [MemPlace.row])).2 u v (by simpa using World.var?_cell hg1 hv1 0)
  have ok2 : ∀ u v, l2 = [.iface u v] → Value.okWide Tryz.prog W .any 0 u v := fun u v e => by
    subst e
    exact (hrows 2 0 (by simp [MemPlace.row])).2 u v (by simpa using World.var?_cell hg2 hv2 0)
  obtain ⟨a0, s0, rfl, hc0, hs0, hz0, rfl⟩ := errorString_of_trod Tryz.underlying42 Tryz.rowE Tryz.underlying268 Tryz.underlying286 rfl rfl Tryz.underlying9 Tryz.cells_es Tryz.cells_string hd0 ok0
  obtain ⟨a1, s1, rfl, hc1, hs1, hz1, rfl⟩ := errorString_of_trod Tryz.underlying42 Tryz.rowE Tryz.underlying268 Tryz.underlying286 rfl rfl Tryz.underlying9 Tryz.cells_es Tryz.cells_string hd1 ok1
  obtain ⟨a2, s2, rfl, hc2, hs2, hz2, rfl⟩ := errorString_of_trod Tryz.underlying42 Tryz.rowE Tryz.underlying268 Tryz.underlying286 rfl rfl Tryz.underlying9 Tryz.cells_es Tryz.cells_string hd2 ok2
  have b0 := (hrows a0.block a0.off (by simp [MemPlace.row])).1
  have b1 := (hrows a1.block a1.off (by simp [MemPlace.row])).1
  have b2 := (hrows a2.block a2.off (by simp [MemPlace.row])).1
  have hnd3 := (List.nodup_append.1 (List.nodup_append.1 hnd).2.1).2.1
  refine ⟨a0, a1, a2, tb, tt, cap, ⟨by simpa using World.var?_cell hg0 hv0 0, by simpa using World.var?_cell hg1 hv1 0, by simpa using World.var?_cell hg2 hv2 0, hge, ?_, ?_, ?_, b0, b1, b2⟩, hU, hTab⟩
  · rintro rfl; simp [MemPlace.row] at hnd3
  · rintro rfl; simp [MemPlace.row] at hnd3
  · rintro rfl; simp [MemPlace.row] at hnd3
end Go.Proofs.YtcnpkijjnbhagaaGreatDoor
