/- The program's table of classes looked up, walked; the reference's classes in plain words; that they are the same. -/
import Derived.Test.YtcnpkijjnbhagaaGreatDoorProg
import Derived.WalkKit
import Derived.WalkSpells
import Derived.WalkLawsBesides
import Derived.WalkMore
import Derived.Lib.Hide
import Derived.Deep.QuietTactic
import Derived.BigQuiet
import Derived.Outline
namespace Go.Proofs.YtcnpkijjnbhagaaGreatDoor
open Go.RowKit

/-- The table's rows: from, to, class. -/
def tabL : List (Nat × Nat × Nat) := [(9, 9, 10), (32, 32, 11), (33, 34, 12), (35, 37, 5), (38, 42, 12), (43, 43, 4), (44, 44, 7), (45, 45, 4), (46, 47, 7), (48, 57, 3), (58, 58, 7), (59, 64, 12), (91, 96, 12), (123, 126, 12), (173, 173, 9), (768, 879, 8), (1488, 1514, 1), (1564, 1564, 2), (1575, 1610, 2), (1611, 1618, 8), (1632, 1641, 6), (8195, 8195, 11), (8203, 8203, 9), (8207, 8207, 1), (8234, 8234, 13), (8235, 8235, 14), (8236, 8236, 17), (8237, 8237, 15), (8238, 8238, 16), (8294, 8294, 18), (8295, 8295, 19), (8296, 8296, 20), (8297, 8297, 21), (8364, 8364, 5), (9001, 9002, 12), (12296, 12297, 12)]
/-- A rune's class by the table. -/
def tabC (r : Nat) : Nat := match tabL.find? fun e => decide (e.1 ≤ r ∧ r ≤ e.2.1) with
  | some e => e.2.2
  | none => 0
/-- A rune's class by the reference. -/
def refC (r : Nat) : Nat :=
  if (1488 ≤ r ∧ r ≤ 1514) ∨ r = 8207 then 1 else if (1575 ≤ r ∧ r ≤ 1610) ∨ r = 1564 then 2 else if 48 ≤ r ∧ r ≤ 57 then 3 else if r = 43 ∨ r = 45 then 4 else if 1632 ≤ r ∧ r ≤ 1641 then 6
  else if (768 ≤ r ∧ r ≤ 879) ∨ (1611 ≤ r ∧ r ≤ 1618) then 8 else if r = 173 ∨ r = 8203 then 9 else if r = 9 then 10 else if r = 32 ∨ r = 8195 then 11 else if 8294 ≤ r ∧ r ≤ 8297 then 18 + r - 8294
  else if r = 35 ∨ r = 36 ∨ r = 37 ∨ r = 8364 then 5 else if r = 44 ∨ r = 46 ∨ r = 47 ∨ r = 58 then 7 else if (r = 33 ∨ r = 34 ∨ (38 ≤ r ∧ r ≤ 42) ∨ (59 ≤ r ∧ r ≤ 64) ∨ (91 ≤ r ∧ r ≤ 96) ∨ (123 ≤ r ∧ r ≤ 126)) ∨ (r = 9001 ∨ r = 9002 ∨ r = 12296 ∨ r = 12297) then 12
  else if r = 8234 then 13 else if r = 8235 then 14 else if r = 8237 then 15 else if r = 8238 then 16 else if r = 8236 then 17 else 0
theorem tab_small : (tabL.all fun e => (List.range (e.2.1 - e.1 + 1)).all fun i => tabC (e.1 + i) == refC (e.1 + i)) = true := by decide +kernel
theorem tab_ref (r : Nat) : tabC r = refC r := by
  by_cases h : ∃ e ∈ tabL, e.1 ≤ r ∧ r ≤ e.2.1
  · obtain ⟨e, he, h1, h2⟩ := h
    have h3 := List.all_eq_true.1 (List.all_eq_true.1 tab_small e he) (r - e.1) (List.mem_range.2 (by omega))
    rw [show e.1 + (r - e.1) = r by omega] at h3
    simpa using h3
  · have h1 : tabC r = 0 := by
      have : tabL.find? (fun e => decide (e.1 ≤ r ∧ r ≤ e.2.1)) = none := by
        rw [List.find?_eq_none]
        intro e he hc
        exact h ⟨e, he, by simpa using hc⟩
      unfold tabC
      rw [this]
    have out : ∀ lo hi c : Nat, (lo, hi, c) ∈ tabL → ¬ (lo ≤ r ∧ r ≤ hi) := fun lo hi c he hc => h ⟨_, he, hc⟩
    rw [h1]
    unfold refC
    rw [if_neg (by have h0 := out 1488 1514 1 (by decide); have h1 := out 8207 8207 1 (by decide); omega)]
    rw [if_neg (by have h0 := out 1575 1610 2 (by decide); have h1 := out 1564 1564 2 (by decide); omega)]
    rw [if_neg (by have h0 := out 48 57 3 (by decide); omega)]
    rw [if_neg (by have h0 := out 43 43 4 (by decide); have h1 := out 45 45 4 (by decide); omega)]
    rw [if_neg (by have h0 := out 1632 1641 6 (by decide); omega)]
    rw [if_neg (by have h0 := out 768 879 8 (by decide); have h1 := out 1611 1618 8 (by decide); omega)]
    rw [if_neg (by have h0 := out 173 173 9 (by decide); have h1 := out 8203 8203 9 (by decide); omega)]
    rw [if_neg (by have h0 := out 9 9 10 (by decide); omega)]
    rw [if_neg (by have h0 := out 32 32 11 (by decide); have h1 := out 8195 8195 11 (by decide); omega)]
    rw [if_neg (by have h0 := out 8294 8294 18 (by decide); have h1 := out 8295 8295 19 (by decide); have h2 := out 8296 8296 20 (by decide); have h3 := out 8297 8297 21 (by decide); omega)]
    rw [if_neg (by have h0 := out 35 37 5 (by decide); have h1 := out 8364 8364 5 (by decide); omega)]
    rw [if_neg (by have h0 := out 44 44 7 (by decide); have h1 := out 46 47 7 (by decide); have h2 := out 58 58 7 (by decide); omega)]
    rw [if_neg (by have h0 := out 33 34 12 (by decide); have h1 := out 38 42 12 (by decide); have h2 := out 59 64 12 (by decide); have h3 := out 91 96 12 (by decide); have h4 := out 123 126 12 (by decide); have h5 := out 9001 9002 12 (by decide); have h6 := out 12296 12297 12 (by decide); omega)]
    rw [if_neg (by have h0 := out 8234 8234 13 (by decide); omega)]
    rw [if_neg (by have h0 := out 8235 8235 14 (by decide); omega)]
    rw [if_neg (by have h0 := out 8237 8237 15 (by decide); omega)]
    rw [if_neg (by have h0 := out 8238 8238 16 (by decide); omega)]
    rw [if_neg (by have h0 := out 8236 8236 17 (by decide); omega)]
theorem tab_len : tabL.length = 36 := rfl
theorem tab_sorted : ∀ i : Fin 36, ∀ j : Fin 36, i.val < j.val → (tabL[i.val]'(by rw [tab_len]; exact i.isLt)).2.1 < (tabL[j.val]'(by rw [tab_len]; exact j.isLt)).1 := by decide +kernel
theorem tab_order : ∀ i : Fin 36, (tabL[i.val]'(by rw [tab_len]; exact i.isLt)).1 ≤ (tabL[i.val]'(by rw [tab_len]; exact i.isLt)).2.1 := by decide +kernel
theorem tabC_in {r m : Nat} (hm : m < 36) (h1 : (tabL[m]'(by rw [tab_len]; exact hm)).1 ≤ r) (h2 : r ≤ (tabL[m]'(by rw [tab_len]; exact hm)).2.1) : tabC r = (tabL[m]'(by rw [tab_len]; exact hm)).2.2 := by
  have : tabL.find? (fun e => decide (e.1 ≤ r ∧ r ≤ e.2.1)) = some (tabL[m]'(by rw [tab_len]; exact hm)) := by
    rw [List.find?_eq_some_iff_getElem]
    refine ⟨by simp [h1, h2], m, by rw [tab_len]; exact hm, rfl, fun j hj => ?_⟩
    have := tab_sorted ⟨j, by omega⟩ ⟨m, hm⟩ hj
    simp only at this
    simp
    omega
  unfold tabC
  rw [this]
theorem tabC_out {r a : Nat} (h1 : ∀ j (h : j < 36), j < a → (tabL[j]'(by rw [tab_len]; exact h)).2.1 < r) (h2 : ∀ j (h : j < 36), a ≤ j → r < (tabL[j]'(by rw [tab_len]; exact h)).1) : tabC r = 0 := by
  have : tabL.find? (fun e => decide (e.1 ≤ r ∧ r ≤ e.2.1)) = none := by
    rw [List.find?_eq_none]
    intro e he
    obtain ⟨j, hj, rfl⟩ := List.getElem_of_mem he
    rw [tab_len] at hj
    rcases Nat.lt_or_ge j a with h | h
    · have := h1 j hj h
      simp
      omega
    · have := h2 j hj h
      simp
      omega
  unfold tabC
  rw [this]
/-- The table lies in memory. -/
def TabAt (W : World) (tb to cap : Nat) : Prop :=
  W.cell? ⟨3, 0, none⟩ = some (.slice (some ⟨tb, to, none⟩) 36 cap) ∧
  ∀ k (h : k < 36), W.cell? ⟨tb, to + k * 3, none⟩ = some (.int .i32 (tabL[k]'(by rw [tab_len]; exact h)).1) ∧ W.cell? ⟨tb, to + k * 3 + 1, none⟩ = some (.int .i32 (tabL[k]'(by rw [tab_len]; exact h)).2.1) ∧ W.cell? ⟨tb, to + k * 3 + 2, none⟩ = some (.int .i64 (tabL[k]'(by rw [tab_len]; exact h)).2.2)
theorem TabAt.below {W W' : World} {tb to cap B : Nat} (h : TabAt W tb to cap) (hb : Below B W W') (hB : W.heap.size ≤ B) : TabAt W' tb to cap := by
  have kc := fun (p : Addr) (u : Value) (hp : W.cell? p = some u) => (hb.cell (Nat.lt_of_lt_of_le (World.block_lt_of_cell? W p hp) hB)).trans hp
  exact ⟨kc _ _ h.1, fun k hk => ⟨kc _ _ (h.2 k hk).1, kc _ _ (h.2 k hk).2.1, kc _ _ (h.2 k hk).2.2⟩⟩
def OfRel (r : Nat) (W : World) (lv hv : Value) (wr : World) : Prop :=
  ∃ a b : Nat, lv = .int .i64 a ∧ hv = .int .i64 b ∧ a ≤ 36 ∧ b ≤ 36 ∧ (∀ j (h : j < 36), j < a → (tabL[j]'(by rw [tab_len]; exact h)).2.1 < r) ∧ (∀ j (h : j < 36), b ≤ j → r < (tabL[j]'(by rw [tab_len]; exact h)).1) ∧ Below W.heap.size W wr
theorem of_left {r a b m : Nat} {W wr : World} {o : Obj} (hm : m < b) (hb : b ≤ 36) (ha : a ≤ 36) (h1 : ∀ j (h : j < 36), j < a → (tabL[j]'(by rw [tab_len]; exact h)).2.1 < r) (hB : Below W.heap.size W wr)
    (hr : r < (tabL[m]'(by rw [tab_len]; omega)).1) : OfRel r W (.int .i64 a) (.int .i64 m) (wr.alloc o) := by
  refine ⟨a, m, rfl, rfl, ha, by omega, h1, fun j h hj => ?_, hB.alloc hB.size o⟩
  rcases Nat.eq_or_lt_of_le hj with rfl | hj
  · exact hr
  · have := tab_sorted ⟨m, by omega⟩ ⟨j, h⟩ hj
    have := tab_order ⟨m, by omega⟩
    simp only at *
    omega
theorem of_right {r b m : Nat} {W wr : World} {o : Obj} {x : Int} (hx : x = (m : Int) + 1) (hm : m < b) (hb : b ≤ 36) (h2 : ∀ j (h : j < 36), b ≤ j → r < (tabL[j]'(by rw [tab_len]; exact h)).1) (hB : Below W.heap.size W wr)
    (hr : (tabL[m]'(by rw [tab_len]; omega)).2.1 < r) : OfRel r W (.int .i64 x) (.int .i64 b) (wr.alloc o) := by
  subst hx
  refine ⟨m + 1, b, rfl, rfl, by omega, hb, fun j h hj => ?_, h2, hB.alloc hB.size o⟩
  rcases Nat.eq_or_lt_of_le (Nat.le_of_lt_succ hj) with rfl | hj
  · exact hr
  · have := tab_sorted ⟨j, h⟩ ⟨m, by omega⟩ hj
    have := tab_order ⟨m, by omega⟩
    simp only at *
    omega
def OfPost (r : Nat) (w : World) (e : Ending) (w' : World) : Prop := e = .returned (.int .i64 (tabC r)) ∧ Below w.heap.size w w'
set_option maxHeartbeats 1000000 in
set_option maxRecDepth 100000 in
theorem of_any (r tb to cap : Nat) (W : World) (hT : TabAt W tb to cap) : Calls Tryz.prog 37 #[.int .i32 r] W (OfPost r W) := by
  have hg := hT.1
  have HT := Lib.hid hT.2
  clear hT
  go_enter Tryz.func37, Tryz.ntmps37
  go_wp2
  go_region
  go_wp2
  go_loopw [3, 4] (OfRel r W) (fun a b _ => (intOf b).toNat - (intOf a).toNat)
  case atStart => exact ⟨0, 36, rfl, rfl, by omega, by omega, fun j h hj => by omega, fun j h hj => by omega, (Below.refl _ _).drew⟩
  case round =>
    obtain ⟨a, b, rfl, rfl, ha, hb, h1, h2, hB⟩ := hrel
    have H1 := Lib.hid h1
    have H2 := Lib.hid h2
    have hgr := (hB.cell (World.block_lt_of_cell? W ⟨3, 0, none⟩ hg)).trans hg
    clear h1 h2
    by_cases hab : a < b
    · obtain ⟨m, hm⟩ : ∃ m, m = (a + b) / 2 := ⟨_, rfl⟩
      have hm1 : a ≤ m := by omega
      have hm2 : m < b := by omega
      have hm36 : m < 36 := by omega
      have em : ((a : Int) + (b : Int)).tdiv 2 = (m : Int) := by
        rw [Int.tdiv_eq_ediv_of_nonneg (by omega)]; omega
      have em2 : ((a : Int) + (b : Int)) / 2 = (m : Int) := by omega
      obtain ⟨c0, c1, c2⟩ := HT.out m hm36
      have d0 := (hB.cell (World.block_lt_of_cell? W ⟨tb, to + m * 3, none⟩ c0)).trans c0
      have d1 := (hB.cell (World.block_lt_of_cell? W ⟨tb, to + m * 3 + 1, none⟩ c1)).trans c1
      have d2 := (hB.cell (World.block_lt_of_cell? W ⟨tb, to + m * 3 + 2, none⟩ c2)).trans c2
      obtain ⟨lo, hlo⟩ : ∃ x, x = (tabL[m]'(by rw [tab_len]; exact hm36)).1 := ⟨_, rfl⟩
      obtain ⟨hi, hhi⟩ : ∃ x, x = (tabL[m]'(by rw [tab_len]; exact hm36)).2.1 := ⟨_, rfl⟩
      obtain ⟨cl, hcl⟩ : ∃ x, x = (tabL[m]'(by rw [tab_len]; exact hm36)).2.2 := ⟨_, rfl⟩
      rw [← hlo] at d0
      rw [← hhi] at d1
      rw [← hcl] at d2
      have HLo := Lib.hid hlo
      have HHi := Lib.hid hhi
      have HCl := Lib.hid hcl
      clear c0 c1 c2 hlo hhi hcl hm
      by_cases q1 : r < lo
      · go_wp2
        go_roundw
        case rel => exact of_left hm2 hb ha H1.out hB (by rw [← HLo.out]; exact q1)
        case measure => simp [intOf]; omega
      · by_cases q2 : hi < r
        · go_wp2
          go_roundw
          case rel => exact of_right rfl hm2 hb H2.out hB (by rw [← HHi.out]; exact q2)
          case measure => simp [intOf]; omega
        · have HC : Hid (tabC r = cl) := by
            rw [HCl.out]
            exact tabC_in hm36 (by rw [← HLo.out]; omega) (by rw [← HHi.out]; omega)
          go_wp2
          go_ret
          exact ⟨by rw [HC.out]; rfl, hB.alloc hB.size _⟩
    · have HC : Hid (tabC r = 0) := tabC_out H1.out (fun j h hj => H2.out j h (by omega))
      go_wp2
      go_ret
      exact ⟨by rw [HC.out]; rfl, hB⟩
end Go.Proofs.YtcnpkijjnbhagaaGreatDoor
