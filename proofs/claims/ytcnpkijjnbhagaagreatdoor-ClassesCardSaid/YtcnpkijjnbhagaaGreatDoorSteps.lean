/- How the script of steps lies in memory when a law is called: each step's four cells. -/
import Derived.Test.YtcnpkijjnbhagaaGreatDoorRows
import Derived.ProofKit
import Derived.Deep.Slices
import Derived.Deep.Fields
import Derived.Lib.SmallJoins
namespace Go.Proofs.YtcnpkijjnbhagaaGreatDoor
open Go.ChangeShapes Go.WideShapes Go.ChangeAt Go.RowKit Go.Deep

theorem Tryz.cells_string : Tryz.prog.cellsOf 9 = 1 := by kernel_rfl
theorem Tryz.cells_int : Tryz.prog.cellsOf 3 = 1 := by kernel_rfl
theorem Tryz.cells_op : Tryz.prog.cellsOf 27 = 4 := by kernel_rfl
theorem Tryz.cells_eds : Tryz.prog.cellsOf 25 = 1 := by kernel_rfl
/-- A list of four whose places are told. -/
theorem list4 {cs : List Value} {a b c d : Value} (hl : cs.length = 4) (h0 : (cs.drop 0).take 1 = [a]) (h1 : (cs.drop 1).take 1 = [b]) (h2 : (cs.drop 2).take 1 = [c]) (h3 : (cs.drop 3).take 1 = [d]) : cs = [a, b, c, d] := by
  match cs, hl with
  | [w, x, y, z], _ => simp at h0 h1 h2 h3; simp [h0, h1, h2, h3]
theorem list4_last {cs : List Value} (hl : cs.length = 4) : ∃ v, (cs.drop 3).take 1 = [v] := by
  match cs, hl with
  | [_, _, _, z], _ => exact ⟨z, rfl⟩
set_option maxRecDepth 100000 in
/-- One step: two numbers, a text, a list of edits. -/
theorem op_open {H : Type} {enc : TypeId × Value → H} {W : World} {base : Nat} {spare : Nat → Bool} {held : Bool} {fuel : Nat} {cs : List Value} {x : DataW H × List MemPlace}
    (h : DataW.trod enc Tryz.prog W base spare held fuel 27 cs = some x) : ∃ (kd a : Int) (s : ByteArray) (v : Value) (n : Nat) (y0 y1 y2 y3 : DataW H × List MemPlace), cs = [.int .i64 kd, .int .i64 a, .string s, v] ∧ s.size ≤ maxLen ∧
      DataW.trod enc Tryz.prog W base spare held n 25 [v] = some y3 ∧ x.1 = .agg [y0.1, y1.1, y2.1, y3.1] ∧ y2.1 = .lit (.string s.data.toList) := by
  obtain ⟨y0, y1, y2, y3, n, rfl, hlen, h0, h1, h2, h3⟩ := Joins.trod_struct4 Tryz.underlying27 h
  obtain ⟨kd, e0, _, _⟩ := DataW.trod_int Tryz.underlying3 h0
  obtain ⟨a, e1, _, _⟩ := DataW.trod_int Tryz.underlying3 h1
  obtain ⟨s, e2, e2y, hz⟩ := DataW.trod_string Tryz.underlying9 h2
  have e0' : (cs.drop 0).take (Tryz.prog.cellsOf 3) = [.int .i64 kd] := e0
  have e1' : (cs.drop 1).take (Tryz.prog.cellsOf 3) = [.int .i64 a] := e1
  have e2' : (cs.drop 2).take (Tryz.prog.cellsOf 9) = [.string s] := e2
  have h3' : DataW.trod enc Tryz.prog W base spare held n 25 ((cs.drop 3).take (Tryz.prog.cellsOf 25)) = some y3 := h3
  rw [Tryz.cells_int] at e0' e1'
  rw [Tryz.cells_string] at e2'
  rw [Tryz.cells_op] at hlen
  rw [Tryz.cells_eds] at h3'
  obtain ⟨v, e3⟩ := list4_last hlen
  rw [e3] at h3'
  exact ⟨kd, a, s, v, n, y0, y1, y2, y3, list4 hlen e0' e1' e2' e3, hz, h3', rfl, by rw [e2y]⟩
/-- A list of edits is a slice. -/
theorem eds_slice {H : Type} {enc : TypeId × Value → H} {W : World} {base : Nat} {spare : Nat → Bool} {held : Bool} {fuel : Nat} {v : Value} {x : DataW H × List MemPlace}
    (h : DataW.trod enc Tryz.prog W base spare held fuel 25 [v] = some x) : ∃ eo en ec, v = .slice eo en ec := by
  rcases open_slice Tryz.underlying25 h with ⟨h0, _⟩ | ⟨a', len, cap, m, n', D, Pl, h0, _⟩
  · simp at h0; exact ⟨_, _, _, h0⟩
  · simp at h0; exact ⟨_, _, _, h0⟩
/-- An address moved on. -/
theorem add_none (a : Addr) (h : a.spot = none) (i : Nat) : a.add i = ⟨a.block, a.off + i, none⟩ := by
  obtain ⟨b, o, sp⟩ := a
  subst h
  unfold Addr.add
  by_cases hi : i = 0 <;> simp [hi]
set_option maxRecDepth 100000 in
/-- The script: a list that is nil, or one that lies at (g, o), step k at place o + 4 k. -/
theorem open_steps {H : Type} {enc : TypeId × Value → H} {W : World} {r : Reach} {b0 base : Nat} {spare : Nat → Bool} {held : Bool} {v : Value} {d : DataW H} {p : List MemPlace}
    (hv : Value.okWide Tryz.prog W r b0 22 v) (h : DataW.Trod enc Tryz.prog W base spare held 22 v d p) :
    v = .slice none 0 0 ∨ ∃ g o n c m D, v = .slice (some ⟨g, o, none⟩) n c ∧ n ≤ maxLen ∧ n ≤ m ∧ d = .slice ((List.range n).map D) ((List.range (m - n)).map fun j => D (n + j)) ∧ ∀ k, k < n → ∃ (kd a : Int) (s : ByteArray) (u : Value) (f : Nat) (y0 y1 y2 y3 : DataW H × List MemPlace),
      W.cell? ⟨g, o + k * 4, none⟩ = some (.int .i64 kd) ∧ W.cell? ⟨g, o + k * 4 + 1, none⟩ = some (.int .i64 a) ∧ W.cell? ⟨g, o + k * 4 + 2, none⟩ = some (.string s) ∧ W.cell? ⟨g, o + k * 4 + 3, none⟩ = some u ∧ s.size ≤ maxLen ∧
      DataW.trod enc Tryz.prog W base spare held f 25 [u] = some y3 ∧ D k = .agg [y0.1, y1.1, y2.1, y3.1] ∧ y2.1 = .lit (.string s.data.toList) := by
  obtain ⟨a, n, c, rfl⟩ := okWide_slice Tryz.underlying22 hv
  obtain ⟨fuel, hf⟩ := h
  rcases open_slice Tryz.underlying22 hf with ⟨h0, _⟩ | ⟨a', len, cap, m, n', D, Pl, h0, _, hl, hm, hmm, hxx, hx⟩
  · simp [Value.cells] at h0
    obtain ⟨rfl, rfl, rfl⟩ := h0
    exact .inl rfl
  · simp [Value.cells] at h0
    obtain ⟨rfl, rfl, rfl⟩ := h0
    have hsp : a'.spot = none := by
      simp only [Value.okWide, Tryz.underlying22, Cell.okWide, Cell.ok] at hv
      exact hv.2.2.2.1
    have hnm : n ≤ m := by subst hmm; split <;> omega
    refine .inr ⟨a'.block, a'.off, n, c, m, D, by rw [← hsp], by omega, hnm, congrArg (·.1) hxx, fun k hk => ?_⟩
    obtain ⟨cs, hc, ht⟩ := hx k (by omega)
    rw [Tryz.cells_op] at hc
    obtain ⟨kd, a, s, u, f, y0, y1, y2, y3, rfl, hz, h3, hd, h2⟩ := op_open ht
    obtain ⟨_, _, hat⟩ := World.cells?_some hc
    have c0 := hat 0 (by omega)
    have c1 := hat 1 (by omega)
    have c2 := hat 2 (by omega)
    have c3 := hat 3 (by omega)
    rw [Deep.add_add, add_none a' hsp] at c0 c1 c2 c3
    refine ⟨kd, a, s, u, f, y0, y1, y2, y3, ?_, ?_, ?_, ?_, hz, h3, hd, h2⟩
    · simpa using c0
    · rw [← Nat.add_assoc] at c1; simpa using c1
    · rw [← Nat.add_assoc] at c2; simpa using c2
    · rw [← Nat.add_assoc] at c3; simpa using c3
end Go.Proofs.YtcnpkijjnbhagaaGreatDoor
