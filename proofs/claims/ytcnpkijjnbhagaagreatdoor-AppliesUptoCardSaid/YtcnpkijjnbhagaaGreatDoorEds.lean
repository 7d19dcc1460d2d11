/- How a step's edits lie in memory, and how much they weigh. -/
import Derived.Test.YtcnpkijjnbhagaaGreatDoorSteps
import Derived.Test.YtcnpkijjnbhagaaGreatDoorAplain
namespace Go.Proofs.YtcnpkijjnbhagaaGreatDoor
open Go.ChangeShapes Go.WideShapes Go.ChangeAt Go.RowKit Go.Deep

theorem Tryz.cells_edit : Tryz.prog.cellsOf 71 = 3 := by kernel_rfl
theorem list3 {cs : List Value} {a b c : Value} (hl : cs.length = 3) (h0 : (cs.drop 0).take 1 = [a]) (h1 : (cs.drop 1).take 1 = [b]) (h2 : (cs.drop 2).take 1 = [c]) : cs = [a, b, c] := by
  match cs, hl with
  | [w, x, y], _ => simp at h0 h1 h2; simp [h0, h1, h2]
set_option maxRecDepth 100000 in
/-- One edit. -/
theorem ed_open {H : Type} {enc : TypeId × Value → H} {W : World} {base : Nat} {spare : Nat → Bool} {held : Bool} {fuel : Nat} {cs : List Value} {x : DataW H × List MemPlace}
    (h : DataW.trod enc Tryz.prog W base spare held fuel 71 cs = some x) : ∃ e : Ed, cs = [.int .i64 e.at_, .int .i64 e.cut, .string e.nw] ∧ x.1 = .agg [.lit (.int .i64 e.at_), .lit (.int .i64 e.cut), .lit (.string e.nw.data.toList)] := by
  obtain ⟨y0, y1, y2, n, rfl, hlen, h0, h1, h2⟩ := Deep.trod_struct3 Tryz.underlying71 h
  obtain ⟨a, e0, f0, _⟩ := DataW.trod_int Tryz.underlying3 h0
  obtain ⟨c, e1, f1, _⟩ := DataW.trod_int Tryz.underlying3 h1
  obtain ⟨s, e2, f2, _⟩ := DataW.trod_string Tryz.underlying9 h2
  have e0' : (cs.drop 0).take (Tryz.prog.cellsOf 3) = [.int .i64 a] := e0
  have e1' : (cs.drop 1).take (Tryz.prog.cellsOf 3) = [.int .i64 c] := e1
  have e2' : (cs.drop 2).take (Tryz.prog.cellsOf 9) = [.string s] := e2
  rw [Tryz.cells_int] at e0' e1'
  rw [Tryz.cells_string] at e2'
  rw [Tryz.cells_edit] at hlen
  exact ⟨⟨a, c, s⟩, list3 hlen e0' e1' e2', by rw [f0, f1, f2]⟩
instance : Inhabited Ed := ⟨⟨0, 0, ⟨#[]⟩⟩⟩
theorem bulk_mem {H : Type} : ∀ {l : List (DataW H)} {d : DataW H}, d ∈ l → Rows.uptoBulk d ≤ Rows.uptoBulkAll l
  | a :: r, d, h => by
    rcases List.mem_cons.1 h with rfl | h
    · simp only [Rows.uptoBulkAll]; omega
    · have := bulk_mem h
      simp only [Rows.uptoBulkAll]; omega
/-- An edit as it reads. -/
def edD {H : Type} (e : Ed) : DataW H := .agg [.lit (.int .i64 e.at_), .lit (.int .i64 e.cut), .lit (.string e.nw.data.toList)]
theorem bulk_eds {H : Type} : ∀ es : List Ed, totE es + es.length ≤ Rows.uptoBulkAll (es.map (edD (H := H)))
  | [] => by simp [totE, Rows.uptoBulkAll]
  | e :: r => by
    have := bulk_eds (H := H) r
    have hs : e.nw.data.toList.length = e.nw.size := by simp
    simp only [List.map_cons, Rows.uptoBulkAll, totE, List.length_cons, edD, Rows.uptoBulk, hs]
    omega
set_option maxRecDepth 100000 in
theorem eds_open {H : Type} {enc : TypeId × Value → H} {W : World} {base : Nat} {spare : Nat → Bool} {held : Bool} {fuel : Nat} {v : Value} {x : DataW H × List MemPlace}
    (h : DataW.trod enc Tryz.prog W base spare held fuel 25 [v] = some x) : ∃ (vo : Option Addr) (es : List Ed) (c : Nat), v = .slice vo es.length c ∧ EdsAt W vo es ∧ totE es + es.length ≤ Rows.uptoBulk x.1 := by
  rcases open_slice Tryz.underlying25 h with ⟨h0, _⟩ | ⟨a, len, cap, m, n, D, Pl, h0, _, hl, hm, hmm, hxx, hx⟩
  · simp at h0
    exact ⟨none, [], 0, h0, fun k e he => by simp at he, by simp [totE]⟩
  · simp at h0
    have hlm : len ≤ m := by subst hmm; split <;> omega
    obtain ⟨V, hV⟩ := choose_lt (α := Ed) (n := len) (p := fun i e => D i = edD e ∧ ∀ j u, [Value.int .i64 e.at_, .int .i64 e.cut, .string e.nw][j]? = some u → W.cell? ((a.add (i * 3)).add j) = some u) (fun i hi => by
      obtain ⟨cs, hc, ht⟩ := hx i (by omega)
      rw [Tryz.cells_edit] at hc
      obtain ⟨e, rfl, hd⟩ := ed_open ht
      obtain ⟨_, _, hat⟩ := World.cells?_some hc
      refine ⟨e, hd, fun j u hu => ?_⟩
      have hj : j < 3 := by
        rcases Nat.lt_or_ge j 3 with h' | h'
        · exact h'
        · simp [List.getElem?_eq_none (show [Value.int .i64 e.at_, .int .i64 e.cut, .string e.nw].length ≤ j from h')] at hu
      exact (hat j hj).trans hu)
    refine ⟨some a, (List.range len).map V, cap, by simpa using h0, fun k e he => ?_, ?_⟩
    · have hk : k < len := by
        rcases Nat.lt_or_ge k len with h' | h'
        · exact h'
        · simp [List.getElem?_eq_none (show (List.range len).length ≤ k by simpa using h')] at he
      simp [List.getElem?_range hk] at he
      subst he
      obtain ⟨_, hat⟩ := hV k hk
      have c0 := hat 0 _ rfl
      have c1 := hat 1 _ rfl
      have c2 := hat 2 _ rfl
      have hsp : a.spot = none := by
        obtain ⟨_, hat0⟩ := hV 0 (by omega)
        have := World.cell?_spot (hat0 0 _ rfl)
        simpa [Addr.add] using this
      rw [Deep.add_add, add_none a hsp] at c0 c1 c2
      refine ⟨a.block, a.off, by rw [← hsp], by simpa using c0, ?_, ?_⟩
      · rw [← Nat.add_assoc] at c1; simpa using c1
      · rw [← Nat.add_assoc] at c2; simpa using c2
    · have h1 : x.1 = .slice ((List.range len).map D) ((List.range (m - len)).map fun j => D (len + j)) := congrArg (·.1) hxx
      have h2 : (List.range len).map D = ((List.range len).map V).map edD := by
        rw [List.map_map]
        exact List.map_congr_left fun i hi => (hV i (by simpa using hi)).1
      have h3 := bulk_eds (H := H) ((List.range len).map V)
      rw [h1, h2]
      simp only [Rows.uptoBulk]
      omega
end Go.Proofs.YtcnpkijjnbhagaaGreatDoor
