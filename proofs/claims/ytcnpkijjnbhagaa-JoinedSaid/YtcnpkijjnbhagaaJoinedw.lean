/- The law Joined, walked: it answers true. -/
import Derived.Test.YtcnpkijjnbhagaaPparts
import Derived.Test.YtcnpkijjnbhagaaPlain
namespace Go.Proofs.Ytcnpkijjnbhagaa
open Go.RowKit

theorem flat_at (P : List Pt) : ∀ (j : Nat) (x : Pt), P[j]? = some x → ∀ i u, i < 5 → (ptc x)[i]? = some u → (P.flatMap ptc)[j * 5 + i]? = some u := by
  induction P with
  | nil => intro j x h; simp at h
  | cons y r ih =>
    intro j x h i u hi hu
    rcases j with _ | j
    · simp at h
      subst h
      simp only [List.flatMap_cons, Nat.zero_mul, Nat.zero_add]
      rw [List.getElem?_append_left (by simpa [ptc] using hi)]
      exact hu
    · simp only [List.flatMap_cons]
      rw [List.getElem?_append_right (by simp [ptc]; omega)]
      have := ih j x (by simpa using h) i u hi hu
      rw [← this]
      congr 1
      simp [ptc]
      omega

set_option maxHeartbeats 1000000 in
set_option maxRecDepth 100000 in
theorem joined_nil (s : ByteArray) (o1 o2 : Option Addr) (c1 c2 : Nat) (w : World) (hs : s.size ≤ 1000000)
    (hT : Tiles (lenOf s) (spans s).length [] 0 0) :
    Calls Try.prog 5 #[.string s, .slice o1 0 c1, .slice o2 0 c2] w (JPost w) := by
  have hsp : (spans s).length ≤ 1000001 := Nat.le_trans (spans_le s) (by omega)
  go_enter Try.func5, Try.ntmps5
  go_wp2_with (go_at_call 7; refine (lines_any2 s _ hs).mono ?_; rintro e W ⟨q, cap, rfl, hq, hB⟩)
  have HT := Lib.hid hT; clear hT
  have HQ := Lib.hid hq; clear hq
  go_loopw [8, 9, 10] (JRel s [] W) (fun _ _ i _ => 0 - (intOf i).toNat)
  case atStart => exact j_start s [] W HT.out
  case round =>
    obtain ⟨k, l, b, n, rfl, rfl, rfl, hk, hl, hTk, rfl⟩ := hrel
    have hke : k = 0 := by simpa using hk
    subst hke
    have hTe : Tiles (lenOf s) (spans s).length [] l b := by simpa using hTk
    obtain ⟨_, hbl, hz0⟩ := hTe
    obtain ⟨tl, hr1, hr2⟩ := HQ.out l hl
    have e1 : ((b : Int) == (tl.size : Int)) = true := by rw [hr2, hbl]; simp
    have HZ := Lib.hid hz0
    clear hbl hr2 hTk hz0
    go_wp2
    go_loop [12] (fun u => ∃ kk : Nat, u = .int .i64 kk ∧ l + 1 ≤ kk ∧ kk ≤ (spans s).length) (fun u => (spans s).length - (intOf u).toNat)
    case atStart => exact ⟨l + 1, rfl, by omega, by omega⟩
    case round =>
      obtain ⟨kk, rfl, hk1, hk2⟩ := hrel
      by_cases hkk : kk < (spans s).length
      · obtain ⟨tk, hs1, hs2⟩ := HQ.out kk (by omega)
        have hz : tk.size = 0 := by rw [hs2]; exact HZ.out kk (by omega) hkk
        clear hs2
        have dz : tk.size ≤ 0 := by omega
        clear hz
        go_wp2
        go_round
        case rel => exact ⟨kk + 1, rfl, by omega, by omega⟩
        case measure => simp [intOf]; omega
      · have dkk : (spans s).length ≤ kk := by omega
        clear hkk
        go_wp2
        go_ret
        exact ⟨rfl, hB.trans ⟨rfl, rfl, rfl, Nat.le_refl _, fun _ _ => rfl⟩⟩

theorem joined_owned (s : ByteArray) (P : List Pt) (v u : Value) (base : Nat) (w : World) (hs : s.size ≤ 1000000) (hP : P.length ≤ 1000000)
    (hv : w.ownsRow base 3 1 v P.length (P.map lnv)) (hu : w.ownsRow base 35 5 u P.length (P.flatMap ptc)) (hT : Tiles (lenOf s) (spans s).length P 0 0) :
    Calls Try.prog 5 #[.string s, v, u] w (JPost w) := by
  by_cases h0 : P = []
  · subst h0
    obtain ⟨o1, c1, rfl⟩ := ownsRow_shape hv
    obtain ⟨o2, c2, rfl⟩ := ownsRow_shape hu
    exact joined_nil s o1 o2 c1 c2 w hs hT
  · have hl : 0 < P.length := List.length_pos_iff.2 h0
    rcases hv.2 with ⟨_, h⟩ | ⟨g, c1, cur1, rfl, _, hg, _⟩
    · omega
    rcases hu.2 with ⟨_, h⟩ | ⟨h, c2, cur2, rfl, _, hh, _⟩
    · omega
    refine joined_some s P g h c1 c2 w hs hP (Array.getElem?_eq_some_iff.1 hg).1 (Array.getElem?_eq_some_iff.1 hh).1 (fun j x hx => ?_) hT
    have hj : j < P.length := (List.getElem?_eq_some_iff.1 hx).1
    refine ⟨?_, ?_, ?_⟩
    · rw [hv.cellAt j (by omega), List.getElem?_map, hx]; rfl
    · rw [hu.cellAt (j * 5 + 1) (by omega)]; exact flat_at P j x hx 1 _ (by omega) rfl
    · rw [hu.cellAt (j * 5 + 2) (by omega)]; exact flat_at P j x hx 2 _ (by omega) rfl

theorem wrap_next (k : Nat) (h : (k : Int) < 1152921504606846976) : wrap64 ((k : Int) + 1) = (k : Int) + 1 := by
  unfold wrap64
  omega
/-- What the law reads of the script. -/
def Script (W : World) (g o n : Nat) : Prop := ∀ k, k < n → ∃ s : ByteArray, W.cell? ⟨g, o + k * 4 + 2, none⟩ = some (.string s) ∧ s.size ≤ maxLen
def OPost (w : World) (e : Ending) (w' : World) : Prop := e = .returned (.bool true) ∧ Below w.heap.size w w'
def ORel (n : Nat) (W : World) (i : Value) (wr : World) : Prop := ∃ k : Nat, i = .int .i64 k ∧ k ≤ n ∧ Below W.heap.size W wr
theorem o_next {n k : Nat} {W wr : World} {x : Int} (hx : x = (k : Int) + 1) (hk : k < n) (hB : Below W.heap.size W wr) : ORel n W (.int .i64 x) wr := by
  subst hx
  exact ⟨k + 1, rfl, hk, hB⟩
theorem o_less {n k : Nat} {x : Int} (hx : x = (k : Int) + 1) (hk : k < n) : n - (intOf (.int .i64 x)).toNat < n - (intOf (.int .i64 (k : Int))).toNat := by
  subst hx
  simp [intOf]
  omega
def PP (s : ByteArray) (w : World) (e : Ending) (w' : World) : Prop := ∃ v u k1 k2 c1 c2, e = .returned (.tuple #[v, u]) ∧ v = .slice k1 (partsOf s).length c1 ∧ u = .slice k2 (partsOf s).length c2 ∧ w'.ownsRow (w.heap.size + 9) 3 1 v (partsOf s).length ((partsOf s).map lnv) ∧
  w'.ownsRow (w.heap.size + 9) 35 5 u (partsOf s).length ((partsOf s).flatMap ptc) ∧ Below w.heap.size w w'
theorem pparts0 (s : ByteArray) (m : Int) (W : World) (hs : s.size ≤ maxLen) (hm : W.cell? ⟨0, 0, none⟩ = some (.int .i64 m)) :
    Calls Try.prog 4 #[.string s, .int .i64 0] W (PP s W) :=
  (pparts_any s 0 m W hs hm).mono fun e w' ⟨v, u, he, hv, hu, ho⟩ => by
    have hl := parts_len s
    rw [cutAt_done (by omega) (fun h => by omega)] at hv hu
    obtain ⟨k1, c1, h1⟩ := ownsRow_shape hv
    obtain ⟨k2, c2, h2⟩ := ownsRow_shape hu
    exact ⟨v, u, k1, k2, c1, c2, he, h1, h2, hv, hu, ⟨ho.os, ho.tape, ho.output, ho.size, fun k hk => ho.block k hk (by unfold Ours; omega)⟩⟩

set_option maxHeartbeats 1000000 in
set_option maxRecDepth 100000 in
theorem joinedlaw_some (g o n c : Nat) (m : Int) (W : World) (hn0 : n ≤ maxLen) (hS : Script W g o n) (hm : W.cell? ⟨0, 0, none⟩ = some (.int .i64 m)) :
    Calls Try.prog 3 #[.slice (some ⟨g, o, none⟩) n c] W (OPost W) := by
  have hn : n ≤ 9223372036854775807 := by unfold maxLen at hn0; exact hn0
  clear hn0
  have HM := Lib.hid hm
  have HS := Lib.hid hS
  clear hS hm
  go_enter Try.func3, Try.ntmps3
  go_wp2
  go_loopw [3] (ORel n W) (fun i _ => n - (intOf i).toNat)
  case atStart => exact ⟨0, rfl, Nat.zero_le _, Below.refl _ _⟩
  case round =>
    obtain ⟨k, rfl, hk, hB⟩ := hrel
    by_cases hkn : k < n
    · by_cases hbig : (k : Int) < 1152921504606846976
      · obtain ⟨s, hs0, hsz⟩ := HS.out k hkn
        have hs1 := (hB.cell (World.block_lt_of_cell? W ⟨g, o + k * 4 + 2, none⟩ hs0)).trans hs0
        have hm1 := (hB.cell (World.block_lt_of_cell? W ⟨0, 0, none⟩ HM.out)).trans HM.out
        have HP := Lib.hid (pparts0 s m wr hsz hm1)
        clear hm1 hs0
        unfold maxLen at hsz
        have HW := Lib.hid (wrap_next k hbig)
        have hbt : decide ((k : Int) < 1152921504606846976) = true := decide_eq_true hbig
        clear hbig hn
        by_cases h600 : s.size ≤ 600
        · have hT := Lib.hid (parts_tile s h600)
          have hle := parts_len s
          go_wp2_with fail
          refine HP.out.mono ?_
          rintro e w2 ⟨v, u, k1, k2, c1, c2, rfl, rfl, rfl, hv, hu, hB2⟩
          have HJ := Lib.hid (joined_owned s (partsOf s) _ _ _ w2 (by omega) (by omega) hv hu hT.out)
          have h6b : decide (600 < (s.size : Int)) = false := decide_eq_false (by omega)
          have h6c : decide (600 < s.size) = false := decide_eq_false (by omega)
          have HK := Lib.hid hkn
          clear hv hu hsz hle h600 hkn hk hbt
          go_wp2_with fail
          refine HJ.out.mono ?_
          rintro e w3 ⟨rfl, hB3⟩
          go_wp2
          go_roundw
          case rel => exact o_next HW.out HK.out ((hB.trans (hB2.mono hB.size)).trans (hB3.mono (Nat.le_trans hB.size hB2.size)))
          case measure => exact o_less HW.out HK.out
        · have h0 : (partsOf s).length = 0 := by unfold partsOf; rw [if_neg h600]; rfl
          have h601 : 600 < s.size := by omega
          clear h600
          go_wp2_with fail
          refine HP.out.mono ?_
          rintro e w2 ⟨v, u, k1, k2, c1, c2, rfl, rfl, rfl, hv, hu, hB2⟩
          rw [h0]
          have h6b : decide (600 < (s.size : Int)) = true := decide_eq_true (by omega)
          have h6c : decide (600 < s.size) = true := decide_eq_true (by omega)
          have HK := Lib.hid hkn
          clear hv hu h0 hsz h601 hkn hk hbt
          go_wp2
          go_roundw
          case rel => exact o_next HW.out HK.out (hB.trans (hB2.mono hB.size))
          case measure => exact o_less HW.out HK.out
      · have hbb : decide ((k : Int) < 1152921504606846976) = false := decide_eq_false hbig
        clear hbig hn hk
        go_wp2
        go_ret
        exact ⟨rfl, hB⟩
    · have hkn' : n ≤ k := by omega
      clear hkn
      go_wp2
      go_ret
      exact ⟨rfl, hB⟩
theorem joinedlaw_nil (W : World) : Calls Try.prog 3 #[.slice none 0 0] W (OPost W) := by
  go_enter Try.func3, Try.ntmps3
  go_wp2
  go_loopw [3] (ORel 0 W) (fun i _ => 0 - (intOf i).toNat)
  case atStart => exact ⟨0, rfl, Nat.zero_le _, Below.refl _ _⟩
  case round =>
    obtain ⟨k, rfl, hk, hB⟩ := hrel
    go_wp2
    go_ret
    exact ⟨rfl, hB⟩
end Go.Proofs.Ytcnpkijjnbhagaa
