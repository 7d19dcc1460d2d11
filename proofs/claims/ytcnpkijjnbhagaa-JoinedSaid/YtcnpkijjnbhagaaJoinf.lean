/- The function bidiguardlaw.joined, walked: it answers true where the parts tile the lines. -/
import Derived.Test.YtcnpkijjnbhagaaLines
import Derived.Deep.QuietTactic
import Derived.BigQuiet
namespace Go.Proofs.Ytcnpkijjnbhagaa
open Go.RowKit

/-- A line's length. -/
def lenOf (s : ByteArray) (j : Nat) : Nat := let p := (spans s).getD j (0, 0); (s.extract p.1 p.2).size
/-- The lines' numbers and the parts lie in memory: line j at (g, j), part j at (h, 5 j). -/
def Lie (W : World) (g h : Nat) (P : List Pt) : Prop :=
  ∀ j x, P[j]? = some x → W.cell? ⟨g, j, none⟩ = some (.int .i64 x.ln) ∧ W.cell? ⟨h, j * 5 + 1, none⟩ = some (.int .i64 x.fr) ∧ W.cell? ⟨h, j * 5 + 2, none⟩ = some (.int .i64 x.to)
/-- The lines lie in memory. -/
def LinesLie (W : World) (q : Nat) (s : ByteArray) : Prop := ∀ j, j < (spans s).length → ∃ t : ByteArray, W.cell? ⟨q, j, none⟩ = some (.string t) ∧ t.size = lenOf s j

def JPost (w : World) (e : Ending) (w' : World) : Prop := e = .returned (.bool true) ∧ Below w.heap.size w w'
/-- What holds at the outer loop's head. -/
def JRel (s : ByteArray) (P : List Pt) (W : World) (p line i : Value) (wr : World) : Prop :=
  ∃ (k l b n : Nat), p = .int .i64 b ∧ line = .int .i64 l ∧ i = .int .i64 k ∧ k ≤ P.length ∧ l < (spans s).length ∧ Tiles (lenOf s) (spans s).length (P.drop k) l b ∧ wr = W.drewN n

theorem tiles_lt {len : Nat → Nat} {m : Nat} : ∀ {P : List Pt} {i p : Nat}, Tiles len m P i p → i < m
  | [], _, _, h => h.1
  | x :: _, _, _, h => by have h1 := h.1; have h2 := h.2.1; omega
theorem drop_cons_pt {P : List Pt} {k : Nat} (h : k < P.length) : P.drop k = P[k] :: P.drop (k + 1) := List.drop_eq_getElem_cons h
theorem getElem_some {P : List Pt} {k : Nat} (h : k < P.length) : P[k]? = some P[k] := List.getElem?_eq_getElem h


theorem spansF_ne : ∀ (l : List UInt8) (i b : Nat), spansF l i b ≠ []
  | [], _, _ => by simp [spansF]
  | c :: r, i, b => by
    unfold spansF
    split
    · simp
    · exact spansF_ne r _ _
theorem spans_pos (s : ByteArray) : 0 < (spans s).length := List.length_pos_iff.2 (spansF_ne _ _ _)
theorem spansF_le : ∀ (l : List UInt8) (i b : Nat), (spansF l i b).length ≤ l.length + 1
  | [], _, _ => by simp [spansF]
  | c :: r, i, b => by
    unfold spansF
    split
    · have := spansF_le r (i + 1) (i + 1); simp; omega
    · have := spansF_le r (i + 1) b; simp; omega
theorem spans_le (s : ByteArray) : (spans s).length ≤ s.size + 1 := by have := spansF_le s.data.toList 0 0; simpa [spans] using this
def LinesPost2 (s : ByteArray) (w : World) (e : Ending) (w' : World) : Prop :=
  ∃ q cap, e = .returned (.slice (some ⟨q, 0, none⟩) (spans s).length cap) ∧ LinesLie w' q s ∧ Below w.heap.size w w'
theorem lines_any2 (s : ByteArray) (w : World) (hs : s.size ≤ 1000000) : Calls Try.prog 7 #[.string s] w (LinesPost2 s w) :=
  (lines_any s w hs).mono fun e w' ⟨v, he, ho, hB⟩ => by
    obtain ⟨g, cap, rfl⟩ : ∃ g cap, v = .slice (some ⟨g, 0, none⟩) (spans s).length cap := by
      rcases ho.2 with ⟨_, h0⟩ | ⟨g, cap, cur, rfl, _⟩
      · exact absurd h0 (by have := spans_pos s; omega)
      · exact ⟨g, cap, rfl⟩
    refine ⟨g, cap, he, fun j hj => ?_, hB⟩
    have h1 := ho.cellAt j (by omega)
    refine ⟨s.extract ((spans s).getD j (0, 0)).1 ((spans s).getD j (0, 0)).2, ?_, rfl⟩
    rw [h1, List.getElem?_map, List.getElem?_eq_getElem hj]
    simp [strv, List.getD_eq_getElem?_getD, List.getElem?_eq_getElem hj]

theorem j_start (s : ByteArray) (P : List Pt) (W : World) (hT : Tiles (lenOf s) (spans s).length P 0 0) : JRel s P W (.int .i64 0) (.int .i64 0) (.int .i64 0) W :=
  ⟨0, 0, 0, 0, rfl, rfl, rfl, by omega, spans_pos s, by simpa using hT, rfl⟩
theorem j_next (s : ByteArray) (P : List Pt) (W : World) (k n l b : Nat) (x : Pt) (hk : k < P.length) (hT : Tiles (lenOf s) (spans s).length (x :: P.drop (k + 1)) l b) (u : Value) (hu : u = .int .i64 (x.ln : Int)) :
    JRel s P W (.int .i64 x.to) u (.int .i64 ((k : Int) + 1)) (W.drewN n) := by
  subst hu
  obtain ⟨h1, h2, h3, h4, h5, h6, h7⟩ := hT
  exact ⟨k + 1, x.ln, x.to, n, rfl, rfl, rfl, by omega, h2, h7, rfl⟩

set_option maxHeartbeats 1000000 in
set_option maxRecDepth 100000 in
theorem joined_some (s : ByteArray) (P : List Pt) (g h c1 c2 : Nat) (w : World) (hs : s.size ≤ 1000000) (hP : P.length ≤ 1000000) (hg : g < w.heap.size) (hh : h < w.heap.size) (hL : Lie w g h P)
    (hT : Tiles (lenOf s) (spans s).length P 0 0) :
    Calls Try.prog 5 #[.string s, .slice (some ⟨g, 0, none⟩) P.length c1, .slice (some ⟨h, 0, none⟩) P.length c2] w (JPost w) := by
  have hsp : (spans s).length ≤ 1000001 := Nat.le_trans (spans_le s) (by omega)
  go_enter Try.func5, Try.ntmps5
  go_wp2_with (go_at_call 7; refine (lines_any2 s _ hs).mono ?_; rintro e W ⟨q, cap, rfl, hq, hB⟩)
  have hL' : Lie W g h P := fun j x hx => by
    obtain ⟨a1, a2, a3⟩ := hL j x hx
    exact ⟨(hB.cell (p := ⟨g, j, none⟩) hg).trans a1, (hB.cell (p := ⟨h, j * 5 + 1, none⟩) hh).trans a2, (hB.cell (p := ⟨h, j * 5 + 2, none⟩) hh).trans a3⟩
  have HT := Lib.hid hT; clear hT
  have HL := Lib.hid hL'; clear hL' hL
  have HQ := Lib.hid hq; clear hq
  go_loopw [8, 9, 10] (JRel s P W) (fun _ _ i _ => P.length - (intOf i).toNat)
  case atStart => exact j_start s P W HT.out
  case round =>
    obtain ⟨k, l, b, n, rfl, rfl, rfl, hk, hl, hTk, rfl⟩ := hrel
    by_cases hlt : k < P.length
    · obtain ⟨x, hx⟩ : ∃ x, P[k]? = some x := ⟨_, getElem_some hlt⟩
      have hTk' : Tiles (lenOf s) (spans s).length (x :: P.drop (k + 1)) l b := by
        rw [drop_cons_pt hlt] at hTk
        rw [getElem_some hlt] at hx
        cases hx
        exact hTk
      obtain ⟨a1, a2, a3⟩ := HL.out k x hx
      have H5 := Lib.hid hTk'
      obtain ⟨t1, t2, t3, t4, t5, t6, _⟩ := hTk'
      have H4 := Lib.hid t4; have H3 := Lib.hid t3
      obtain ⟨tx, hq1, hq2⟩ := HQ.out x.ln t2
      have HX := Lib.hid hx
      have HQ2 := Lib.hid hq2
      have hto : x.to ≤ tx.size := by rw [hq2]; exact t6
      clear hx hTk t4 t3 hq2 t6
      have hge : decide ((x.ln : Int) < (l : Int)) = false := by simp; omega
      by_cases hl2 : l < x.ln
      · have H0 : x.fr = 0 ∧ ∀ j, l < j → j < x.ln → lenOf s j = 0 := ⟨by have := H4.out; simp [hl2] at this; exact this, (H3.out hl2).2⟩
        have hbl := (H3.out hl2).1
        obtain ⟨tl, hr1, hr2⟩ := HQ.out l hl
        have e1 : ((b : Int) != (tl.size : Int)) = false := by rw [hr2, hbl]; simp
        have HB := Lib.hid hbl
        have HR2 := Lib.hid hr2
        have HZ := Lib.hid H0.2
        have HF := Lib.hid H0.1
        have h0to : 0 < x.to := by omega
        have a2z : W.cell? ⟨h, k * 5 + 1, none⟩ = some (.int .i64 0) := by rw [a2, H0.1]; rfl
        clear a2
        have d1 : decide ((x.to : Int) ≤ 0) = false := decide_eq_false (by omega)
        have d1b : decide (x.to = 0) = false := decide_eq_false (by omega)
        have d1c : decide ((x.to : Int) = 0) = false := decide_eq_false (by omega)
        have d2 : decide (tx.size < x.to) = false := by simp; omega
        have hl3 : l < (spans s).length := hl
        clear hbl hr2 H0
        go_wp2
        go_loop [11] (fun u => ∃ kk : Nat, u = .int .i64 kk ∧ l + 1 ≤ kk ∧ kk ≤ x.ln) (fun u => x.ln - (intOf u).toNat)
        case atStart => exact ⟨l + 1, rfl, by omega, by omega⟩
        case round =>
          obtain ⟨kk, rfl, hk1, hk2⟩ := hrel
          by_cases hkk : kk < x.ln
          · obtain ⟨tk, hs1, hs2⟩ := HQ.out kk (by omega)
            have hz : tk.size = 0 := by rw [hs2]; exact HZ.out kk (by omega) hkk
            have HS2 := Lib.hid hs2
            clear hs2
            have dz : tk.size ≤ 0 := by omega
            clear hz
            go_wp2
            go_round
            case rel => exact ⟨kk + 1, rfl, by omega, by omega⟩
            case measure => simp [intOf]; omega
          · have dk : x.ln ≤ kk := by omega
            clear hkk
            go_wp2
            go_quiet (fail)
            go_wp2
            go_roundw
            case rel => exact j_next s P W k _ l b x hlt H5.out _ rfl
            case measure => simp [intOf]; omega
      · have hle : l = x.ln := by omega
        subst hle
        have hfr : b = x.fr := by have := H4.out; simp at this; omega
        subst hfr
        have d1 : decide (x.to ≤ x.fr) = false := by simp; omega
        have d2 : decide (tx.size < x.to) = false := by simp; omega
        go_wp2
        go_quiet (fail)
        go_wp2
        go_roundw
        case rel => exact j_next s P W k _ x.ln x.fr x hlt H5.out _ rfl
        case measure => simp [intOf]; omega
    · have hke : k = P.length := by omega
      have hTe : Tiles (lenOf s) (spans s).length [] l b := by rw [hke, List.drop_eq_nil_of_le (Nat.le_refl _)] at hTk; exact hTk
      have dk : P.length ≤ k := by omega
      obtain ⟨_, hbl, hz0⟩ := hTe
      obtain ⟨tl, hr1, hr2⟩ := HQ.out l hl
      have e1 : ((b : Int) == (tl.size : Int)) = true := by rw [hr2, hbl]; simp
      have HZ := Lib.hid hz0
      clear hbl hr2 hke hTk hz0
      go_wp2
      go_loop [12] (fun u => ∃ kk : Nat, u = .int .i64 kk ∧ l + 1 ≤ kk ∧ kk ≤ (spans s).length) (fun u => (spans s).length - (intOf u).toNat)
      case atStart => exact ⟨l + 1, rfl, by omega, by omega⟩
      case round =>
        obtain ⟨kk, rfl, hk1, hk2⟩ := hrel
        by_cases hkk : kk < (spans s).length
        · obtain ⟨tk, hs1, hs2⟩ := HQ.out kk (by omega)
          have hz : tk.size = 0 := by rw [hs2]; exact HZ.out kk (by omega) hkk
          clear hs2
          have dz : tk.size ≤ 0 := by omega
          clear hz
          go_wp2
          go_round
          case rel => exact ⟨kk + 1, rfl, by omega, by omega⟩
          case measure => simp [intOf]; omega
        · have dkk : (spans s).length ≤ kk := by omega
          clear hkk
          go_wp2
          go_ret
          exact ⟨rfl, hB.trans ⟨rfl, rfl, rfl, Nat.le_refl _, fun _ _ => rfl⟩⟩
end Go.Proofs.Ytcnpkijjnbhagaa
