/- The law's loop over the steps of one kind, walked: where each step of the kind is as it should be, it answers -1. -/
import Derived.Test.YtcnpkijjnbhagaaGreatDoorProg
import Derived.WalkKit
import Derived.WalkSpells
import Derived.WalkLawsBesides
import Derived.WalkMore
import Derived.Lib.Hide
import Derived.OwnWalk
import Derived.Outline
namespace Go.Proofs.YtcnpkijjnbhagaaGreatDoor
open Go.RowKit

def TruePost (w : World) (e : Ending) (w' : World) : Prop := e = .returned (.bool true) ∧ Below w.heap.size w w'
/-- How the steps lie, and that those of kind K are as they should be. -/
def Steps (K : Int) (W : World) (g o n : Nat) : Prop := ∀ k, k < n → ∃ (kd a : Int) (s : ByteArray) (eo : Option Addr) (en ec : Nat), W.cell? ⟨g, o + k * 4, none⟩ = some (.int .i64 kd) ∧ W.cell? ⟨g, o + k * 4 + 1, none⟩ = some (.int .i64 a) ∧
  W.cell? ⟨g, o + k * 4 + 2, none⟩ = some (.string s) ∧ W.cell? ⟨g, o + k * 4 + 3, none⟩ = some (.slice eo en ec) ∧
  (kd = K → ∀ W', Below W.heap.size W W' → Calls Tryz.prog 7 #[.agg #[.int .i64 kd, .int .i64 a, .string s, .slice eo en ec]] W' (TruePost W'))
def UPost (w : World) (e : Ending) (w' : World) : Prop := e = .returned (.int .i64 (-1)) ∧ Below w.heap.size w w'
def URel (n : Nat) (W : World) (i : Value) (wr : World) : Prop := ∃ k : Nat, i = .int .i64 k ∧ k ≤ n ∧ Below W.heap.size W wr
theorem uwrap (k : Nat) (h : (k : Int) < 1152921504606846976) : wrap64 ((k : Int) + 1) = (k : Int) + 1 := by
  unfold wrap64
  omega
theorem u_next {n k : Nat} {W wr : World} {x : Int} (hx : x = (k : Int) + 1) (hk : k < n) (hB : Below W.heap.size W wr) : URel n W (.int .i64 x) wr := by
  subst hx
  exact ⟨k + 1, rfl, hk, hB⟩
theorem u_less {n k : Nat} {x : Int} (hx : x = (k : Int) + 1) (hk : k < n) : n - (intOf (.int .i64 x)).toNat < n - (intOf (.int .i64 (k : Int))).toNat := by
  subst hx
  simp [intOf]
  omega
theorem upto_nil (K : Int) (W : World) : Calls Tryz.prog 6 #[.slice none 0 0, .int .i64 K, .int .i64 K] W (UPost W) := by
  go_enter Tryz.func6, Tryz.ntmps6
  go_wp2
  go_loopw [7] (URel 0 W) (fun i _ => 0 - (intOf i).toNat)
  case atStart => exact ⟨0, rfl, Nat.zero_le _, Below.refl _ _⟩
  case round =>
    obtain ⟨k, rfl, hk, hB⟩ := hrel
    go_wp2
    go_ret
    exact ⟨rfl, hB⟩
set_option maxHeartbeats 1000000 in
set_option maxRecDepth 100000 in
theorem upto_some (K : Int) (g o n c : Nat) (W : World) (hn0 : n ≤ maxLen) (hS : Steps K W g o n) :
    Calls Tryz.prog 6 #[.slice (some ⟨g, o, none⟩) n c, .int .i64 K, .int .i64 K] W (UPost W) := by
  have hn : n ≤ 9223372036854775807 := by unfold maxLen at hn0; exact hn0
  clear hn0
  have HS := Lib.hid hS
  clear hS
  go_enter Tryz.func6, Tryz.ntmps6
  go_wp2
  go_loopw [7] (URel n W) (fun i _ => n - (intOf i).toNat)
  case atStart => exact ⟨0, rfl, Nat.zero_le _, Below.refl _ _⟩
  case round =>
    obtain ⟨k, rfl, hk, hB⟩ := hrel
    by_cases hkn : k < n
    · by_cases hbig : (k : Int) < 1152921504606846976
      · obtain ⟨kd, a, s, eo, en, ec, c0, c1, c2, c3, hP⟩ := HS.out k hkn
        have d0 := (hB.cell (World.block_lt_of_cell? W ⟨g, o + k * 4, none⟩ c0)).trans c0
        have d1 := (hB.cell (World.block_lt_of_cell? W ⟨g, o + k * 4 + 1, none⟩ c1)).trans c1
        have d2 := (hB.cell (World.block_lt_of_cell? W ⟨g, o + k * 4 + 2, none⟩ c2)).trans c2
        have d3 := (hB.cell (World.block_lt_of_cell? W ⟨g, o + k * 4 + 3, none⟩ c3)).trans c3
        have HW := Lib.hid (uwrap k hbig)
        have HP := Lib.hid hP
        have hbt : decide ((k : Int) < 1152921504606846976) = true := decide_eq_true hbig
        have HK := Lib.hid hkn
        clear hbig hn c0 c1 c2 c3 hP
        by_cases hkd : kd = K
        · have HPP := Lib.hid (HP.out hkd)
          have HKD := Lib.hid hkd
          have e1 : K ≤ kd := by omega
          have e2 : kd ≤ K := by omega
          clear HP hkd
          clear e1 e2
          have e1 : K ≤ kd := by have := HKD.out; omega
          have e2 : kd ≤ K := by have := HKD.out; omega
          go_wp2_with fail
          refine (HPP.out _ (hB.alloc hB.size _)).mono ?_
          rintro e w3 ⟨rfl, hB3⟩
          go_wp2
          go_roundw
          case rel => exact u_next HW.out HK.out ((hB.alloc hB.size _).trans (hB3.mono (by have := hB.size; simp; omega)))
          case measure => exact u_less HW.out HK.out
        · clear HP
          by_cases hlt : kd < K
          · have e1 : ¬ K ≤ kd := by omega
            clear hkd
            go_wp2
            go_roundw
            case rel => exact u_next HW.out HK.out (hB.alloc hB.size _)
            case measure => exact u_less HW.out HK.out
          · have e1 : K ≤ kd := by omega
            have e2 : ¬ kd ≤ K := by omega
            clear hkd hlt
            go_wp2
            go_roundw
            case rel => exact u_next HW.out HK.out (hB.alloc hB.size _)
            case measure => exact u_less HW.out HK.out
      · have hbb : decide ((k : Int) < 1152921504606846976) = false := decide_eq_false hbig
        clear hbig hn hk
        go_wp2
        go_ret
        exact ⟨rfl, hB⟩
    · have hkn' : n ≤ k := by omega
      clear hkn
      go_wp2
      go_ret
      exact ⟨rfl, hB⟩
end Go.Proofs.YtcnpkijjnbhagaaGreatDoor
