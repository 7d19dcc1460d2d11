/- How the script of steps lies in memory when a law is called: its texts' cells. -/
import Derived.Test.YtcnpkijjnbhagaaRows
import Derived.ProofKit
import Derived.Deep.Slices
import Derived.Deep.Fields
namespace Go.Proofs.Ytcnpkijjnbhagaa
open Go.ChangeShapes Go.WideShapes Go.ChangeAt Go.RowKit Go.Deep

theorem Try.cells_string : Try.prog.cellsOf 9 = 1 := by kernel_rfl
theorem Try.cells_op : Try.prog.cellsOf 25 = 4 := by kernel_rfl
/-- One step's text. -/
theorem op_text {H : Type} {enc : TypeId × Value → H} {W : World} {base : Nat} {spare : Nat → Bool} {held : Bool} {fuel : Nat} {cs : List Value} {x : DataW H × List MemPlace}
    (h : DataW.trod enc Try.prog W base spare held fuel 25 cs = some x) : ∃ s : ByteArray, cs[2]? = some (.string s) ∧ s.size ≤ maxLen := by
  obtain ⟨ys, n, _, _, hlen, hyl, hf⟩ := DataW.trod_struct Try.underlying25 h
  have h2 := hf 2 _ rfl
  have hy : ys[2]? = some (ys[2]'(by rw [hyl]; decide)) := List.getElem?_eq_getElem _
  rw [hy] at h2
  obtain ⟨s, hs, _, hz⟩ := DataW.trod_string Try.underlying9 h2
  refine ⟨s, ?_, hz⟩
  have hs' : (cs.drop 2).take (Try.prog.cellsOf 9) = [.string s] := hs
  have h3 := congrArg (fun l => l[0]?) hs'
  rw [Try.cells_string] at h3
  simpa using h3
/-- An address moved on. -/
theorem add_none (a : Addr) (h : a.spot = none) (i : Nat) : a.add i = ⟨a.block, a.off + i, none⟩ := by
  obtain ⟨b, o, sp⟩ := a
  subst h
  unfold Addr.add
  by_cases hi : i = 0 <;> simp [hi]
/-- The script: a list that is nil, or one that lies at (g, o), the text of step k at place o + 4 k + 2. -/
theorem open_script {H : Type} {enc : TypeId × Value → H} {W : World} {r : Reach} {b0 base : Nat} {spare : Nat → Bool} {held : Bool} {v : Value} {d : DataW H} {p : List MemPlace}
    (hv : Value.okWide Try.prog W r b0 22 v) (h : DataW.Trod enc Try.prog W base spare held 22 v d p) :
    v = .slice none 0 0 ∨ ∃ g o n c, v = .slice (some ⟨g, o, none⟩) n c ∧ n ≤ maxLen ∧ ∀ k, k < n → ∃ s : ByteArray, W.cell? ⟨g, o + k * 4 + 2, none⟩ = some (.string s) ∧ s.size ≤ maxLen := by
  obtain ⟨a, n, c, rfl⟩ := okWide_slice Try.underlying22 hv
  obtain ⟨fuel, hf⟩ := h
  rcases open_slice Try.underlying22 hf with ⟨h0, _⟩ | ⟨a', len, cap, m, n', D, Pl, h0, _, hl, hm, hmm, _, hx⟩
  · simp [Value.cells] at h0
    obtain ⟨rfl, rfl, rfl⟩ := h0
    exact .inl rfl
  · simp [Value.cells] at h0
    obtain ⟨rfl, rfl, rfl⟩ := h0
    have hsp : a'.spot = none := by
      simp only [Value.okWide, Try.underlying22, Cell.okWide, Cell.ok] at hv
      exact hv.2.2.2.1
    refine .inr ⟨a'.block, a'.off, n, c, by rw [← hsp], by omega, fun k hk => ?_⟩
    obtain ⟨cs, hc, ht⟩ := hx k (by subst hmm; split <;> omega)
    rw [Try.cells_op] at hc
    obtain ⟨s, hs, hz⟩ := op_text ht
    obtain ⟨_, _, hat⟩ := World.cells?_some hc
    refine ⟨s, ?_, hz⟩
    have := hat 2 (by omega)
    rw [hs, Deep.add_add, add_none a' hsp] at this
    rw [← this, Nat.add_assoc]
/-- The row's last step where the call has made new memory and turned nothing else. -/
theorem post_below {H : Type} {enc : TypeId × Value → H} {P : Program} {f : Func} {s : ChangeSpec} {apart fresh handsOn : Bool} {W W' : World} {args : Array Value} {v : Value} {ds gs : List (DataW H)} {before pa pv : List MemPlace}
    (hW : DataW.Whole enc P f.params.toList s.vars apart W args.toList ds gs before)
    (hres : ∀ (b : Nat) (sp : Nat → Bool) (hd : Bool), DataW.TrodAll enc P W' b sp hd f.resultTypes.toList (v.resultList f.resultTypes.size) (s.fn H (ds ++ gs)).results [])
    (hargs : ∀ sp : Nat → Bool, (∀ p ∈ before, sp p.block = true) → DataW.TrodAll enc P W' 0 sp true f.params.toList args.toList (s.fn H (ds ++ gs)).args pa)
    (hvars : ∀ sp : Nat → Bool, (∀ p ∈ before, sp p.block = true) → DataW.TrodVars enc P W' sp s.vars (s.fn H (ds ++ gs)).vars pv)
    (hps : before = pa ++ pv) (hb : Below W.heap.size W W') : s.post enc P f apart fresh handsOn false W args v W' :=
  ⟨ds, gs, before, [], pa, pv, hW, hres _ _ _, hargs _ (fun p hp => by simpa using hW.lt p hp), hvars _ (fun p hp => by simpa using hW.lt p hp),
    World.keptBut_mono (fun p hp => ⟨hp, .inr (by rw [hps, List.mem_append] at hp; exact hp)⟩) (hb.frame (· ∈ before)), fun h => by cases h⟩
end Go.Proofs.Ytcnpkijjnbhagaa
