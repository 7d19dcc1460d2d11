/- The reference's Class, walked. -/
import Derived.Test.YtcnpkijjnbhagaaGreatDoorCclass
namespace Go.Proofs.YtcnpkijjnbhagaaGreatDoor
open Go.RowKit

def ClPost (r : Nat) (w : World) (e : Ending) (w' : World) : Prop := e = .returned (.int .i64 (refC r)) ∧ Below w.heap.size w w'
def sgL : List Int := [33, 34, 38, 39, 40, 41, 42, 59, 60, 61, 62, 63, 64, 91, 92, 93, 94, 95, 96, 123, 124, 125, 126]
theorem signs_const (W : World) : Calls Tryz.prog 72 #[.string ⟨#[33, 34, 38, 39, 40, 41, 42, 59, 60, 61, 62, 63, 64, 91, 92, 93, 94, 95, 96, 123, 124, 125, 126]⟩] W
    fun e w' => ∃ vo vc, e = .returned (.slice vo 23 vc) ∧ IntsAt w' vo sgL ∧ Below W.heap.size W w' :=
  (signs_any _ W (by decide)).mono fun e w' ⟨v, he, ho, hB⟩ => by
    obtain ⟨vo, vc, rfl⟩ := own_slice ho
    exact ⟨vo, vc, he, ints_own (L := sgL) ho rfl, hB⟩
theorem c4_iff (r : Nat) (a b c d : Nat) : List.contains [(a : Int), b, c, d] (r : Int) = true ↔ r = a ∨ r = b ∨ r = c ∨ r = d := by
  simp
  omega
theorem sg_iff (r : Nat) : sgL.contains (r : Int) = true ↔ r = 33 ∨ r = 34 ∨ (38 ≤ r ∧ r ≤ 42) ∨ (59 ≤ r ∧ r ≤ 64) ∨ (91 ≤ r ∧ r ≤ 96) ∨ (123 ≤ r ∧ r ≤ 126) := by
  unfold sgL
  simp
  omega
set_option maxHeartbeats 600000 in
set_option maxRecDepth 100000 in
theorem gap0 (r : Nat) (W : World) (hlo : 0 ≤ r) (hhi : r ≤ 47) (n9 : r ≠ 9) (n32 : r ≠ 32) (n43 : r ≠ 43) (n45 : r ≠ 45) : Calls Tryz.prog 43 #[.int .i64 r] W (ClPost r W) := by
  have z8207 : ((r : Int) == 8207) = false := by simp; omega
  have z1564 : ((r : Int) == 1564) = false := by simp; omega
  have z43 : ((r : Int) == 43) = false := by simp; omega
  have z45 : ((r : Int) == 45) = false := by simp; omega
  have z173 : ((r : Int) == 173) = false := by simp; omega
  have z8203 : ((r : Int) == 8203) = false := by simp; omega
  have z9 : ((r : Int) == 9) = false := by simp; omega
  have z32 : ((r : Int) == 32) = false := by simp; omega
  have z8195 : ((r : Int) == 8195) = false := by simp; omega
  have z8234 : ((r : Int) == 8234) = false := by simp; omega
  have z8235 : ((r : Int) == 8235) = false := by simp; omega
  have z8237 : ((r : Int) == 8237) = false := by simp; omega
  have z8238 : ((r : Int) == 8238) = false := by simp; omega
  have z8236 : ((r : Int) == 8236) = false := by simp; omega
  have HR := Lib.hid (And.intro hlo (And.intro hhi (And.intro n9 (And.intro n32 (And.intro n43 (And.intro n45 trivial))))))
  have hlo' : (0 : Int) ≤ (r : Int) := by omega
  have hhi' : (r : Int) ≤ 47 := by omega
  clear hlo hhi n9 n32 n43 n45
  go_enter Tryz.func43, Tryz.ntmps43
  go_wp2_with fail
  refine (among_any r [35, 36, 37, 8364] _ _ _ (by decide) (ints_new _ _ _ rfl _ _ (by simp))).mono ?_
  rintro e w1 ⟨rfl, rfl⟩
  obtain ⟨b1, hb1⟩ : ∃ b, List.contains [(35 : Int), 36, 37, 8364] (r : Int) = b := ⟨_, rfl⟩
  rw [hb1]
  have HB1 := Lib.hid hb1
  clear hb1
  go_wp2_with fail
  refine (among_any r [44, 46, 47, 58] _ _ _ (by decide) (ints_new _ _ _ rfl _ _ (by simp))).mono ?_
  rintro e w1 ⟨rfl, rfl⟩
  obtain ⟨b2, hb2⟩ : ∃ b, List.contains [(44 : Int), 46, 47, 58] (r : Int) = b := ⟨_, rfl⟩
  rw [hb2]
  have HB2 := Lib.hid hb2
  clear hb2
  go_wp2_with fail
  refine (signs_const _).mono ?_
  rintro e w3 ⟨vo, vc, rfl, hI, hB3⟩
  have HI := Lib.hid hI
  clear hI
  go_wp2_with fail
  refine (among_any r sgL vo vc w3 (by decide) HI.out).mono ?_
  rintro e w4 ⟨rfl, rfl⟩
  obtain ⟨b3, hb3⟩ : ∃ b, List.contains sgL (r : Int) = b := ⟨_, rfl⟩
  rw [hb3]
  have HB3 := Lib.hid hb3
  clear hb3
  go_wp2_with fail
  refine (among_any r [9001, 9002, 12296, 12297] _ _ _ (by decide) (ints_new _ _ _ rfl _ _ (by simp))).mono ?_
  rintro e w4 ⟨rfl, rfl⟩
  obtain ⟨b4, hb4⟩ : ∃ b, List.contains [(9001 : Int), 9002, 12296, 12297] (r : Int) = b := ⟨_, rfl⟩
  rw [hb4]
  have HB4 := Lib.hid hb4
  clear hb4
  have hB : Below W.heap.size W (w3.alloc (.cells #[.int .i64 9001, .int .i64 9002, .int .i64 12296, .int .i64 12297] 3)) := ((((Below.refl _ _).alloc (Nat.le_refl _) _).alloc (by simp) _).trans (hB3.mono (by simp; omega))).alloc (by have := hB3.size; simp at this; omega) _
  have HB := Lib.hid hB
  clear hB hB3
  have k1 : List.contains [(35 : Int), 36, 37, 8364] (r : Int) = true ↔ r = 35 ∨ r = 36 ∨ r = 37 ∨ r = 8364 := c4_iff r 35 36 37 8364
  have k2 : List.contains [(44 : Int), 46, 47, 58] (r : Int) = true ↔ r = 44 ∨ r = 46 ∨ r = 47 ∨ r = 58 := c4_iff r 44 46 47 58
  have k3 := sg_iff r
  have k4 : List.contains [(9001 : Int), 9002, 12296, 12297] (r : Int) = true ↔ r = 9001 ∨ r = 9002 ∨ r = 12296 ∨ r = 12297 := c4_iff r 9001 9002 12296 12297
  rw [HB1.out] at k1
  rw [HB2.out] at k2
  rw [HB3.out] at k3
  rw [HB4.out] at k4
  have HK := Lib.hid (And.intro k1 (And.intro k2 (And.intro k3 k4)))
  clear k1 k2 k3 k4
  cases b1 with
  | true =>
    have HC : Hid (refC r = 5) := by
      obtain ⟨k1, k2, k3, k4⟩ := HK.out
      have h1 := k1.1 rfl
      have := HR.out
      have hc : refC r = 5 := by first | (exfalso; omega; done) | (unfold refC; repeat (first | rw [if_neg (by omega)] | rw [if_pos (by omega)]))
      exact hc
    clear HK
    go_wp2
    go_ret
    exact ⟨by rw [HC.out]; rfl, HB.out⟩
  | false =>
    cases b2 with
    | true =>
      have HC : Hid (refC r = 7) := by
        obtain ⟨k1, k2, k3, k4⟩ := HK.out
        have h1 := k2.1 rfl
        have := HR.out
        have hc : refC r = 7 := by first | (exfalso; omega; done) | (unfold refC; repeat (first | rw [if_neg (by omega)] | rw [if_pos (by omega)]))
        exact hc
      clear HK
      go_wp2
      go_ret
      exact ⟨by rw [HC.out]; rfl, HB.out⟩
    | false =>
      have HL : Hid ((r = 33 ∨ r = 34 ∨ (38 ≤ r ∧ r ≤ 42) ∨ (59 ≤ r ∧ r ≤ 64) ∨ (91 ≤ r ∧ r ≤ 96) ∨ (123 ≤ r ∧ r ≤ 126)) ∨ (r = 9001 ∨ r = 9002 ∨ r = 12296 ∨ r = 12297) → refC r = 12) := by
        obtain ⟨k1, k2, k3, k4⟩ := HK.out
        have h1 : ¬ (r = 35 ∨ r = 36 ∨ r = 37 ∨ r = 8364) := fun h => by have := k1.2 h; cases this
        have h2 : ¬ (r = 44 ∨ r = 46 ∨ r = 47 ∨ r = 58) := fun h => by have := k2.2 h; cases this
        have := HR.out
        intro h
        have hc : refC r = 12 := by first | (exfalso; omega; done) | (unfold refC; repeat (first | rw [if_neg (by omega)] | rw [if_pos (by omega)] | rw [if_pos h]))
        exact hc
      cases b3 with
      | true =>
        have HC : Hid (refC r = 12) := by
          obtain ⟨k1, k2, k3, k4⟩ := HK.out
          exact HL.out (.inl (k3.1 rfl))
        clear HK HL
        go_wp2
        go_ret
        exact ⟨by rw [HC.out]; rfl, HB.out⟩
      | false =>
        cases b4 with
        | true =>
          have HC : Hid (refC r = 12) := by
            obtain ⟨k1, k2, k3, k4⟩ := HK.out
            exact HL.out (.inr (k4.1 rfl))
          clear HK HL
          go_wp2
          go_ret
          exact ⟨by rw [HC.out]; rfl, HB.out⟩
        | false =>
          have HE : Hid (refC r = if r = 8234 then 13 else if r = 8235 then 14 else if r = 8237 then 15 else if r = 8238 then 16 else if r = 8236 then 17 else 0) := by
            obtain ⟨k1, k2, k3, k4⟩ := HK.out
            have h1 : ¬ (r = 35 ∨ r = 36 ∨ r = 37 ∨ r = 8364) := fun h => by have := k1.2 h; cases this
            have h2 : ¬ (r = 44 ∨ r = 46 ∨ r = 47 ∨ r = 58) := fun h => by have := k2.2 h; cases this
            have h3 : ¬ (r = 33 ∨ r = 34 ∨ (38 ≤ r ∧ r ≤ 42) ∨ (59 ≤ r ∧ r ≤ 64) ∨ (91 ≤ r ∧ r ≤ 96) ∨ (123 ≤ r ∧ r ≤ 126)) := fun h => by have := k3.2 h; cases this
            have h4 : ¬ (r = 9001 ∨ r = 9002 ∨ r = 12296 ∨ r = 12297) := fun h => by have := k4.2 h; cases this
            have := HR.out
            have hc : refC r = if r = 8234 then 13 else if r = 8235 then 14 else if r = 8237 then 15 else if r = 8238 then 16 else if r = 8236 then 17 else 0 := by
              unfold refC
              rw [if_neg (by omega), if_neg (by omega), if_neg (by omega), if_neg (by omega), if_neg (by omega), if_neg (by omega), if_neg (by omega), if_neg (by omega), if_neg (by omega), if_neg (by omega), if_neg (by omega), if_neg (by omega), if_neg (fun h => h.elim h3 h4)]
            exact hc
          clear HK HL
          have HC : Hid (refC r = 0) := by
            rw [HE.out]
            have := HR.out
            rw [if_neg (by omega), if_neg (by omega), if_neg (by omega), if_neg (by omega), if_neg (by omega)]
            exact rfl
          go_wp2
          go_ret
          exact ⟨by rw [HC.out]; rfl, HB.out⟩
set_option maxHeartbeats 600000 in
set_option maxRecDepth 100000 in
theorem gap1 (r : Nat) (W : World) (hlo : 58 ≤ r) (hhi : r ≤ 767) (n173 : r ≠ 173) : Calls Tryz.prog 43 #[.int .i64 r] W (ClPost r W) := by
  have z8207 : ((r : Int) == 8207) = false := by simp; omega
  have z1564 : ((r : Int) == 1564) = false := by simp; omega
  have z43 : ((r : Int) == 43) = false := by simp; omega
  have z45 : ((r : Int) == 45) = false := by simp; omega
  have z173 : ((r : Int) == 173) = false := by simp; omega
  have z8203 : ((r : Int) == 8203) = false := by simp; omega
  have z9 : ((r : Int) == 9) = false := by simp; omega
  have z32 : ((r : Int) == 32) = false := by simp; omega
  have z8195 : ((r : Int) == 8195) = false := by simp; omega
  have z8234 : ((r : Int) == 8234) = false := by simp; omega
  have z8235 : ((r : Int) == 8235) = false := by simp; omega
  have z8237 : ((r : Int) == 8237) = false := by simp; omega
  have z8238 : ((r : Int) == 8238) = false := by simp; omega
  have z8236 : ((r : Int) == 8236) = false := by simp; omega
  have HR := Lib.hid (And.intro hlo (And.intro hhi (And.intro n173 trivial)))
  have hlo' : (58 : Int) ≤ (r : Int) := by omega
  have hhi' : (r : Int) ≤ 767 := by omega
  clear hlo hhi n173
  go_enter Tryz.func43, Tryz.ntmps43
  go_wp2_with fail
  refine (among_any r [35, 36, 37, 8364] _ _ _ (by decide) (ints_new _ _ _ rfl _ _ (by simp))).mono ?_
  rintro e w1 ⟨rfl, rfl⟩
  obtain ⟨b1, hb1⟩ : ∃ b, List.contains [(35 : Int), 36, 37, 8364] (r : Int) = b := ⟨_, rfl⟩
  rw [hb1]
  have HB1 := Lib.hid hb1
  clear hb1
  go_wp2_with fail
  refine (among_any r [44, 46, 47, 58] _ _ _ (by decide) (ints_new _ _ _ rfl _ _ (by simp))).mono ?_
  rintro e w1 ⟨rfl, rfl⟩
  obtain ⟨b2, hb2⟩ : ∃ b, List.contains [(44 : Int), 46, 47, 58] (r : Int) = b := ⟨_, rfl⟩
  rw [hb2]
  have HB2 := Lib.hid hb2
  clear hb2
  go_wp2_with fail
  refine (signs_const _).mono ?_
  rintro e w3 ⟨vo, vc, rfl, hI, hB3⟩
  have HI := Lib.hid hI
  clear hI
  go_wp2_with fail
  refine (among_any r sgL vo vc w3 (by decide) HI.out).mono ?_
  rintro e w4 ⟨rfl, rfl⟩
  obtain ⟨b3, hb3⟩ : ∃ b, List.contains sgL (r : Int) = b := ⟨_, rfl⟩
  rw [hb3]
  have HB3 := Lib.hid hb3
  clear hb3
  go_wp2_with fail
  refine (among_any r [9001, 9002, 12296, 12297] _ _ _ (by decide) (ints_new _ _ _ rfl _ _ (by simp))).mono ?_
  rintro e w4 ⟨rfl, rfl⟩
  obtain ⟨b4, hb4⟩ : ∃ b, List.contains [(9001 : Int), 9002, 12296, 12297] (r : Int) = b := ⟨_, rfl⟩
  rw [hb4]
  have HB4 := Lib.hid hb4
  clear hb4
  have hB : Below W.heap.size W (w3.alloc (.cells #[.int .i64 9001, .int .i64 9002, .int .i64 12296, .int .i64 12297] 3)) := ((((Below.refl _ _).alloc (Nat.le_refl _) _).alloc (by simp) _).trans (hB3.mono (by simp; omega))).alloc (by have := hB3.size; simp at this; omega) _
  have HB := Lib.hid hB
  clear hB hB3
  have k1 : List.contains [(35 : Int), 36, 37, 8364] (r : Int) = true ↔ r = 35 ∨ r = 36 ∨ r = 37 ∨ r = 8364 := c4_iff r 35 36 37 8364
  have k2 : List.contains [(44 : Int), 46, 47, 58] (r : Int) = true ↔ r = 44 ∨ r = 46 ∨ r = 47 ∨ r = 58 := c4_iff r 44 46 47 58
  have k3 := sg_iff r
  have k4 : List.contains [(9001 : Int), 9002, 12296, 12297] (r : Int) = true ↔ r = 9001 ∨ r = 9002 ∨ r = 12296 ∨ r = 12297 := c4_iff r 9001 9002 12296 12297
  rw [HB1.out] at k1
  rw [HB2.out] at k2
  rw [HB3.out] at k3
  rw [HB4.out] at k4
  have HK := Lib.hid (And.intro k1 (And.intro k2 (And.intro k3 k4)))
  clear k1 k2 k3 k4
  cases b1 with
  | true =>
    have HC : Hid (refC r = 5) := by
      obtain ⟨k1, k2, k3, k4⟩ := HK.out
      have h1 := k1.1 rfl
      have := HR.out
      have hc : refC r = 5 := by first | (exfalso; omega; done) | (unfold refC; repeat (first | rw [if_neg (by omega)] | rw [if_pos (by omega)]))
      exact hc
    clear HK
    go_wp2
    go_ret
    exact ⟨by rw [HC.out]; rfl, HB.out⟩
  | false =>
    cases b2 with
    | true =>
      have HC : Hid (refC r = 7) := by
        obtain ⟨k1, k2, k3, k4⟩ := HK.out
        have h1 := k2.1 rfl
        have := HR.out
        have hc : refC r = 7 := by first | (exfalso; omega; done) | (unfold refC; repeat (first | rw [if_neg (by omega)] | rw [if_pos (by omega)]))
        exact hc
      clear HK
      go_wp2
      go_ret
      exact ⟨by rw [HC.out]; rfl, HB.out⟩
    | false =>
      have HL : Hid ((r = 33 ∨ r = 34 ∨ (38 ≤ r ∧ r ≤ 42) ∨ (59 ≤ r ∧ r ≤ 64) ∨ (91 ≤ r ∧ r ≤ 96) ∨ (123 ≤ r ∧ r ≤ 126)) ∨ (r = 9001 ∨ r = 9002 ∨ r = 12296 ∨ r = 12297) → refC r = 12) := by
        obtain ⟨k1, k2, k3, k4⟩ := HK.out
        have h1 : ¬ (r = 35 ∨ r = 36 ∨ r = 37 ∨ r = 8364) := fun h => by have := k1.2 h; cases this
        have h2 : ¬ (r = 44 ∨ r = 46 ∨ r = 47 ∨ r = 58) := fun h => by have := k2.2 h; cases this
        have := HR.out
        intro h
        have hc : refC r = 12 := by first | (exfalso; omega; done) | (unfold refC; repeat (first | rw [if_neg (by omega)] | rw [if_pos (by omega)] | rw [if_pos h]))
        exact hc
      cases b3 with
      | true =>
        have HC : Hid (refC r = 12) := by
          obtain ⟨k1, k2, k3, k4⟩ := HK.out
          exact HL.out (.inl (k3.1 rfl))
        clear HK HL
        go_wp2
        go_ret
        exact ⟨by rw [HC.out]; rfl, HB.out⟩
      | false =>
        cases b4 with
        | true =>
          have HC : Hid (refC r = 12) := by
            obtain ⟨k1, k2, k3, k4⟩ := HK.out
            exact HL.out (.inr (k4.1 rfl))
          clear HK HL
          go_wp2
          go_ret
          exact ⟨by rw [HC.out]; rfl, HB.out⟩
        | false =>
          have HE : Hid (refC r = if r = 8234 then 13 else if r = 8235 then 14 else if r = 8237 then 15 else if r = 8238 then 16 else if r = 8236 then 17 else 0) := by
            obtain ⟨k1, k2, k3, k4⟩ := HK.out
            have h1 : ¬ (r = 35 ∨ r = 36 ∨ r = 37 ∨ r = 8364) := fun h => by have := k1.2 h; cases this
            have h2 : ¬ (r = 44 ∨ r = 46 ∨ r = 47 ∨ r = 58) := fun h => by have := k2.2 h; cases this
            have h3 : ¬ (r = 33 ∨ r = 34 ∨ (38 ≤ r ∧ r ≤ 42) ∨ (59 ≤ r ∧ r ≤ 64) ∨ (91 ≤ r ∧ r ≤ 96) ∨ (123 ≤ r ∧ r ≤ 126)) := fun h => by have := k3.2 h; cases this
            have h4 : ¬ (r = 9001 ∨ r = 9002 ∨ r = 12296 ∨ r = 12297) := fun h => by have := k4.2 h; cases this
            have := HR.out
            have hc : refC r = if r = 8234 then 13 else if r = 8235 then 14 else if r = 8237 then 15 else if r = 8238 then 16 else if r = 8236 then 17 else 0 := by
              unfold refC
              rw [if_neg (by omega), if_neg (by omega), if_neg (by omega), if_neg (by omega), if_neg (by omega), if_neg (by omega), if_neg (by omega), if_neg (by omega), if_neg (by omega), if_neg (by omega), if_neg (by omega), if_neg (by omega), if_neg (fun h => h.elim h3 h4)]
            exact hc
          clear HK HL
          have HC : Hid (refC r = 0) := by
            rw [HE.out]
            have := HR.out
            rw [if_neg (by omega), if_neg (by omega), if_neg (by omega), if_neg (by omega), if_neg (by omega)]
            exact rfl
          go_wp2
          go_ret
          exact ⟨by rw [HC.out]; rfl, HB.out⟩
set_option maxHeartbeats 600000 in
set_option maxRecDepth 100000 in
theorem gap2 (r : Nat) (W : World) (hlo : 880 ≤ r) (hhi : r ≤ 1487) : Calls Tryz.prog 43 #[.int .i64 r] W (ClPost r W) := by
  have z8207 : ((r : Int) == 8207) = false := by simp; omega
  have z1564 : ((r : Int) == 1564) = false := by simp; omega
  have z43 : ((r : Int) == 43) = false := by simp; omega
  have z45 : ((r : Int) == 45) = false := by simp; omega
  have z173 : ((r : Int) == 173) = false := by simp; omega
  have z8203 : ((r : Int) == 8203) = false := by simp; omega
  have z9 : ((r : Int) == 9) = false := by simp; omega
  have z32 : ((r : Int) == 32) = false := by simp; omega
  have z8195 : ((r : Int) == 8195) = false := by simp; omega
  have z8234 : ((r : Int) == 8234) = false := by simp; omega
  have z8235 : ((r : Int) == 8235) = false := by simp; omega
  have z8237 : ((r : Int) == 8237) = false := by simp; omega
  have z8238 : ((r : Int) == 8238) = false := by simp; omega
  have z8236 : ((r : Int) == 8236) = false := by simp; omega
  have HR := Lib.hid (And.intro hlo (And.intro hhi trivial))
  have hlo' : (880 : Int) ≤ (r : Int) := by omega
  have hhi' : (r : Int) ≤ 1487 := by omega
  clear hlo hhi 
  go_enter Tryz.func43, Tryz.ntmps43
  go_wp2_with fail
  refine (among_any r [35, 36, 37, 8364] _ _ _ (by decide) (ints_new _ _ _ rfl _ _ (by simp))).mono ?_
  rintro e w1 ⟨rfl, rfl⟩
  obtain ⟨b1, hb1⟩ : ∃ b, List.contains [(35 : Int), 36, 37, 8364] (r : Int) = b := ⟨_, rfl⟩
  rw [hb1]
  have HB1 := Lib.hid hb1
  clear hb1
  go_wp2_with fail
  refine (among_any r [44, 46, 47, 58] _ _ _ (by decide) (ints_new _ _ _ rfl _ _ (by simp))).mono ?_
  rintro e w1 ⟨rfl, rfl⟩
  obtain ⟨b2, hb2⟩ : ∃ b, List.contains [(44 : Int), 46, 47, 58] (r : Int) = b := ⟨_, rfl⟩
  rw [hb2]
  have HB2 := Lib.hid hb2
  clear hb2
  go_wp2_with fail
  refine (signs_const _).mono ?_
  rintro e w3 ⟨vo, vc, rfl, hI, hB3⟩
  have HI := Lib.hid hI
  clear hI
  go_wp2_with fail
  refine (among_any r sgL vo vc w3 (by decide) HI.out).mono ?_
  rintro e w4 ⟨rfl, rfl⟩
  obtain ⟨b3, hb3⟩ : ∃ b, List.contains sgL (r : Int) = b := ⟨_, rfl⟩
  rw [hb3]
  have HB3 := Lib.hid hb3
  clear hb3
  go_wp2_with fail
  refine (among_any r [9001, 9002, 12296, 12297] _ _ _ (by decide) (ints_new _ _ _ rfl _ _ (by simp))).mono ?_
  rintro e w4 ⟨rfl, rfl⟩
  obtain ⟨b4, hb4⟩ : ∃ b, List.contains [(9001 : Int), 9002, 12296, 12297] (r : Int) = b := ⟨_, rfl⟩
  rw [hb4]
  have HB4 := Lib.hid hb4
  clear hb4
  have hB : Below W.heap.size W (w3.alloc (.cells #[.int .i64 9001, .int .i64 9002, .int .i64 12296, .int .i64 12297] 3)) := ((((Below.refl _ _).alloc (Nat.le_refl _) _).alloc (by simp) _).trans (hB3.mono (by simp; omega))).alloc (by have := hB3.size; simp at this; omega) _
  have HB := Lib.hid hB
  clear hB hB3
  have k1 : List.contains [(35 : Int), 36, 37, 8364] (r : Int) = true ↔ r = 35 ∨ r = 36 ∨ r = 37 ∨ r = 8364 := c4_iff r 35 36 37 8364
  have k2 : List.contains [(44 : Int), 46, 47, 58] (r : Int) = true ↔ r = 44 ∨ r = 46 ∨ r = 47 ∨ r = 58 := c4_iff r 44 46 47 58
  have k3 := sg_iff r
  have k4 : List.contains [(9001 : Int), 9002, 12296, 12297] (r : Int) = true ↔ r = 9001 ∨ r = 9002 ∨ r = 12296 ∨ r = 12297 := c4_iff r 9001 9002 12296 12297
  rw [HB1.out] at k1
  rw [HB2.out] at k2
  rw [HB3.out] at k3
  rw [HB4.out] at k4
  have HK := Lib.hid (And.intro k1 (And.intro k2 (And.intro k3 k4)))
  clear k1 k2 k3 k4
  cases b1 with
  | true =>
    have HC : Hid (refC r = 5) := by
      obtain ⟨k1, k2, k3, k4⟩ := HK.out
      have h1 := k1.1 rfl
      have := HR.out
      have hc : refC r = 5 := by first | (exfalso; omega; done) | (unfold refC; repeat (first | rw [if_neg (by omega)] | rw [if_pos (by omega)]))
      exact hc
    clear HK
    go_wp2
    go_ret
    exact ⟨by rw [HC.out]; rfl, HB.out⟩
  | false =>
    cases b2 with
    | true =>
      have HC : Hid (refC r = 7) := by
        obtain ⟨k1, k2, k3, k4⟩ := HK.out
        have h1 := k2.1 rfl
        have := HR.out
        have hc : refC r = 7 := by first | (exfalso; omega; done) | (unfold refC; repeat (first | rw [if_neg (by omega)] | rw [if_pos (by omega)]))
        exact hc
      clear HK
      go_wp2
      go_ret
      exact ⟨by rw [HC.out]; rfl, HB.out⟩
    | false =>
      have HL : Hid ((r = 33 ∨ r = 34 ∨ (38 ≤ r ∧ r ≤ 42) ∨ (59 ≤ r ∧ r ≤ 64) ∨ (91 ≤ r ∧ r ≤ 96) ∨ (123 ≤ r ∧ r ≤ 126)) ∨ (r = 9001 ∨ r = 9002 ∨ r = 12296 ∨ r = 12297) → refC r = 12) := by
        obtain ⟨k1, k2, k3, k4⟩ := HK.out
        have h1 : ¬ (r = 35 ∨ r = 36 ∨ r = 37 ∨ r = 8364) := fun h => by have := k1.2 h; cases this
        have h2 : ¬ (r = 44 ∨ r = 46 ∨ r = 47 ∨ r = 58) := fun h => by have := k2.2 h; cases this
        have := HR.out
        intro h
        have hc : refC r = 12 := by first | (exfalso; omega; done) | (unfold refC; repeat (first | rw [if_neg (by omega)] | rw [if_pos (by omega)] | rw [if_pos h]))
        exact hc
      cases b3 with
      | true =>
        have HC : Hid (refC r = 12) := by
          obtain ⟨k1, k2, k3, k4⟩ := HK.out
          exact HL.out (.inl (k3.1 rfl))
        clear HK HL
        go_wp2
        go_ret
        exact ⟨by rw [HC.out]; rfl, HB.out⟩
      | false =>
        cases b4 with
        | true =>
          have HC : Hid (refC r = 12) := by
            obtain ⟨k1, k2, k3, k4⟩ := HK.out
            exact HL.out (.inr (k4.1 rfl))
          clear HK HL
          go_wp2
          go_ret
          exact ⟨by rw [HC.out]; rfl, HB.out⟩
        | false =>
          have HE : Hid (refC r = if r = 8234 then 13 else if r = 8235 then 14 else if r = 8237 then 15 else if r = 8238 then 16 else if r = 8236 then 17 else 0) := by
            obtain ⟨k1, k2, k3, k4⟩ := HK.out
            have h1 : ¬ (r = 35 ∨ r = 36 ∨ r = 37 ∨ r = 8364) := fun h => by have := k1.2 h; cases this
            have h2 : ¬ (r = 44 ∨ r = 46 ∨ r = 47 ∨ r = 58) := fun h => by have := k2.2 h; cases this
            have h3 : ¬ (r = 33 ∨ r = 34 ∨ (38 ≤ r ∧ r ≤ 42) ∨ (59 ≤ r ∧ r ≤ 64) ∨ (91 ≤ r ∧ r ≤ 96) ∨ (123 ≤ r ∧ r ≤ 126)) := fun h => by have := k3.2 h; cases this
            have h4 : ¬ (r = 9001 ∨ r = 9002 ∨ r = 12296 ∨ r = 12297) := fun h => by have := k4.2 h; cases this
            have := HR.out
            have hc : refC r = if r = 8234 then 13 else if r = 8235 then 14 else if r = 8237 then 15 else if r = 8238 then 16 else if r = 8236 then 17 else 0 := by
              unfold refC
              rw [if_neg (by omega), if_neg (by omega), if_neg (by omega), if_neg (by omega), if_neg (by omega), if_neg (by omega), if_neg (by omega), if_neg (by omega), if_neg (by omega), if_neg (by omega), if_neg (by omega), if_neg (by omega), if_neg (fun h => h.elim h3 h4)]
            exact hc
          clear HK HL
          have HC : Hid (refC r = 0) := by
            rw [HE.out]
            have := HR.out
            rw [if_neg (by omega), if_neg (by omega), if_neg (by omega), if_neg (by omega), if_neg (by omega)]
            exact rfl
          go_wp2
          go_ret
          exact ⟨by rw [HC.out]; rfl, HB.out⟩
set_option maxHeartbeats 600000 in
set_option maxRecDepth 100000 in
theorem gap3 (r : Nat) (W : World) (hlo : 1515 ≤ r) (hhi : r ≤ 1574) (n1564 : r ≠ 1564) : Calls Tryz.prog 43 #[.int .i64 r] W (ClPost r W) := by
  have z8207 : ((r : Int) == 8207) = false := by simp; omega
  have z1564 : ((r : Int) == 1564) = false := by simp; omega
  have z43 : ((r : Int) == 43) = false := by simp; omega
  have z45 : ((r : Int) == 45) = false := by simp; omega
  have z173 : ((r : Int) == 173) = false := by simp; omega
  have z8203 : ((r : Int) == 8203) = false := by simp; omega
  have z9 : ((r : Int) == 9) = false := by simp; omega
  have z32 : ((r : Int) == 32) = false := by simp; omega
  have z8195 : ((r : Int) == 8195) = false := by simp; omega
  have z8234 : ((r : Int) == 8234) = false := by simp; omega
  have z8235 : ((r : Int) == 8235) = false := by simp; omega
  have z8237 : ((r : Int) == 8237) = false := by simp; omega
  have z8238 : ((r : Int) == 8238) = false := by simp; omega
  have z8236 : ((r : Int) == 8236) = false := by simp; omega
  have HR := Lib.hid (And.intro hlo (And.intro hhi (And.intro n1564 trivial)))
  have hlo' : (1515 : Int) ≤ (r : Int) := by omega
  have hhi' : (r : Int) ≤ 1574 := by omega
  clear hlo hhi n1564
  go_enter Tryz.func43, Tryz.ntmps43
  go_wp2_with fail
  refine (among_any r [35, 36, 37, 8364] _ _ _ (by decide) (ints_new _ _ _ rfl _ _ (by simp))).mono ?_
  rintro e w1 ⟨rfl, rfl⟩
  obtain ⟨b1, hb1⟩ : ∃ b, List.contains [(35 : Int), 36, 37, 8364] (r : Int) = b := ⟨_, rfl⟩
  rw [hb1]
  have HB1 := Lib.hid hb1
  clear hb1
  go_wp2_with fail
  refine (among_any r [44, 46, 47, 58] _ _ _ (by decide) (ints_new _ _ _ rfl _ _ (by simp))).mono ?_
  rintro e w1 ⟨rfl, rfl⟩
  obtain ⟨b2, hb2⟩ : ∃ b, List.contains [(44 : Int), 46, 47, 58] (r : Int) = b := ⟨_, rfl⟩
  rw [hb2]
  have HB2 := Lib.hid hb2
  clear hb2
  go_wp2_with fail
  refine (signs_const _).mono ?_
  rintro e w3 ⟨vo, vc, rfl, hI, hB3⟩
  have HI := Lib.hid hI
  clear hI
  go_wp2_with fail
  refine (among_any r sgL vo vc w3 (by decide) HI.out).mono ?_
  rintro e w4 ⟨rfl, rfl⟩
  obtain ⟨b3, hb3⟩ : ∃ b, List.contains sgL (r : Int) = b := ⟨_, rfl⟩
  rw [hb3]
  have HB3 := Lib.hid hb3
  clear hb3
  go_wp2_with fail
  refine (among_any r [9001, 9002, 12296, 12297] _ _ _ (by decide) (ints_new _ _ _ rfl _ _ (by simp))).mono ?_
  rintro e w4 ⟨rfl, rfl⟩
  obtain ⟨b4, hb4⟩ : ∃ b, List.contains [(9001 : Int), 9002, 12296, 12297] (r : Int) = b := ⟨_, rfl⟩
  rw [hb4]
  have HB4 := Lib.hid hb4
  clear hb4
  have hB : Below W.heap.size W (w3.alloc (.cells #[.int .i64 9001, .int .i64 9002, .int .i64 12296, .int .i64 12297] 3)) := ((((Below.refl _ _).alloc (Nat.le_refl _) _).alloc (by simp) _).trans (hB3.mono (by simp; omega))).alloc (by have := hB3.size; simp at this; omega) _
  have HB := Lib.hid hB
  clear hB hB3
  have k1 : List.contains [(35 : Int), 36, 37, 8364] (r : Int) = true ↔ r = 35 ∨ r = 36 ∨ r = 37 ∨ r = 8364 := c4_iff r 35 36 37 8364
  have k2 : List.contains [(44 : Int), 46, 47, 58] (r : Int) = true ↔ r = 44 ∨ r = 46 ∨ r = 47 ∨ r = 58 := c4_iff r 44 46 47 58
  have k3 := sg_iff r
  have k4 : List.contains [(9001 : Int), 9002, 12296, 12297] (r : Int) = true ↔ r = 9001 ∨ r = 9002 ∨ r = 12296 ∨ r = 12297 := c4_iff r 9001 9002 12296 12297
  rw [HB1.out] at k1
  rw [HB2.out] at k2
  rw [HB3.out] at k3
  rw [HB4.out] at k4
  have HK := Lib.hid (And.intro k1 (And.intro k2 (And.intro k3 k4)))
  clear k1 k2 k3 k4
  cases b1 with
  | true =>
    have HC : Hid (refC r = 5) := by
      obtain ⟨k1, k2, k3, k4⟩ := HK.out
      have h1 := k1.1 rfl
      have := HR.out
      have hc : refC r = 5 := by first | (exfalso; omega; done) | (unfold refC; repeat (first | rw [if_neg (by omega)] | rw [if_pos (by omega)]))
      exact hc
    clear HK
    go_wp2
    go_ret
    exact ⟨by rw [HC.out]; rfl, HB.out⟩
  | false =>
    cases b2 with
    | true =>
      have HC : Hid (refC r = 7) := by
        obtain ⟨k1, k2, k3, k4⟩ := HK.out
        have h1 := k2.1 rfl
        have := HR.out
        have hc : refC r = 7 := by first | (exfalso; omega; done) | (unfold refC; repeat (first | rw [if_neg (by omega)] | rw [if_pos (by omega)]))
        exact hc
      clear HK
      go_wp2
      go_ret
      exact ⟨by rw [HC.out]; rfl, HB.out⟩
    | false =>
      have HL : Hid ((r = 33 ∨ r = 34 ∨ (38 ≤ r ∧ r ≤ 42) ∨ (59 ≤ r ∧ r ≤ 64) ∨ (91 ≤ r ∧ r ≤ 96) ∨ (123 ≤ r ∧ r ≤ 126)) ∨ (r = 9001 ∨ r = 9002 ∨ r = 12296 ∨ r = 12297) → refC r = 12) := by
        obtain ⟨k1, k2, k3, k4⟩ := HK.out
        have h1 : ¬ (r = 35 ∨ r = 36 ∨ r = 37 ∨ r = 8364) := fun h => by have := k1.2 h; cases this
        have h2 : ¬ (r = 44 ∨ r = 46 ∨ r = 47 ∨ r = 58) := fun h => by have := k2.2 h; cases this
        have := HR.out
        intro h
        have hc : refC r = 12 := by first | (exfalso; omega; done) | (unfold refC; repeat (first | rw [if_neg (by omega)] | rw [if_pos (by omega)] | rw [if_pos h]))
        exact hc
      cases b3 with
      | true =>
        have HC : Hid (refC r = 12) := by
          obtain ⟨k1, k2, k3, k4⟩ := HK.out
          exact HL.out (.inl (k3.1 rfl))
        clear HK HL
        go_wp2
        go_ret
        exact ⟨by rw [HC.out]; rfl, HB.out⟩
      | false =>
        cases b4 with
        | true =>
          have HC : Hid (refC r = 12) := by
            obtain ⟨k1, k2, k3, k4⟩ := HK.out
            exact HL.out (.inr (k4.1 rfl))
          clear HK HL
          go_wp2
          go_ret
          exact ⟨by rw [HC.out]; rfl, HB.out⟩
        | false =>
          have HE : Hid (refC r = if r = 8234 then 13 else if r = 8235 then 14 else if r = 8237 then 15 else if r = 8238 then 16 else if r = 8236 then 17 else 0) := by
            obtain ⟨k1, k2, k3, k4⟩ := HK.out
            have h1 : ¬ (r = 35 ∨ r = 36 ∨ r = 37 ∨ r = 8364) := fun h => by have := k1.2 h; cases this
            have h2 : ¬ (r = 44 ∨ r = 46 ∨ r = 47 ∨ r = 58) := fun h => by have := k2.2 h; cases this
            have h3 : ¬ (r = 33 ∨ r = 34 ∨ (38 ≤ r ∧ r ≤ 42) ∨ (59 ≤ r ∧ r ≤ 64) ∨ (91 ≤ r ∧ r ≤ 96) ∨ (123 ≤ r ∧ r ≤ 126)) := fun h => by have := k3.2 h; cases this
            have h4 : ¬ (r = 9001 ∨ r = 9002 ∨ r = 12296 ∨ r = 12297) := fun h => by have := k4.2 h; cases this
            have := HR.out
            have hc : refC r = if r = 8234 then 13 else if r = 8235 then 14 else if r = 8237 then 15 else if r = 8238 then 16 else if r = 8236 then 17 else 0 := by
              unfold refC
              rw [if_neg (by omega), if_neg (by omega), if_neg (by omega), if_neg (by omega), if_neg (by omega), if_neg (by omega), if_neg (by omega), if_neg (by omega), if_neg (by omega), if_neg (by omega), if_neg (by omega), if_neg (by omega), if_neg (fun h => h.elim h3 h4)]
            exact hc
          clear HK HL
          have HC : Hid (refC r = 0) := by
            rw [HE.out]
            have := HR.out
            rw [if_neg (by omega), if_neg (by omega), if_neg (by omega), if_neg (by omega), if_neg (by omega)]
            exact rfl
          go_wp2
          go_ret
          exact ⟨by rw [HC.out]; rfl, HB.out⟩
set_option maxHeartbeats 600000 in
set_option maxRecDepth 100000 in
theorem gap4 (r : Nat) (W : World) (hlo : 1619 ≤ r) (hhi : r ≤ 1631) : Calls Tryz.prog 43 #[.int .i64 r] W (ClPost r W) := by
  have z8207 : ((r : Int) == 8207) = false := by simp; omega
  have z1564 : ((r : Int) == 1564) = false := by simp; omega
  have z43 : ((r : Int) == 43) = false := by simp; omega
  have z45 : ((r : Int) == 45) = false := by simp; omega
  have z173 : ((r : Int) == 173) = false := by simp; omega
  have z8203 : ((r : Int) == 8203) = false := by simp; omega
  have z9 : ((r : Int) == 9) = false := by simp; omega
  have z32 : ((r : Int) == 32) = false := by simp; omega
  have z8195 : ((r : Int) == 8195) = false := by simp; omega
  have z8234 : ((r : Int) == 8234) = false := by simp; omega
  have z8235 : ((r : Int) == 8235) = false := by simp; omega
  have z8237 : ((r : Int) == 8237) = false := by simp; omega
  have z8238 : ((r : Int) == 8238) = false := by simp; omega
  have z8236 : ((r : Int) == 8236) = false := by simp; omega
  have HR := Lib.hid (And.intro hlo (And.intro hhi trivial))
  have hlo' : (1619 : Int) ≤ (r : Int) := by omega
  have hhi' : (r : Int) ≤ 1631 := by omega
  clear hlo hhi 
  go_enter Tryz.func43, Tryz.ntmps43
  go_wp2_with fail
  refine (among_any r [35, 36, 37, 8364] _ _ _ (by decide) (ints_new _ _ _ rfl _ _ (by simp))).mono ?_
  rintro e w1 ⟨rfl, rfl⟩
  obtain ⟨b1, hb1⟩ : ∃ b, List.contains [(35 : Int), 36, 37, 8364] (r : Int) = b := ⟨_, rfl⟩
  rw [hb1]
  have HB1 := Lib.hid hb1
  clear hb1
  go_wp2_with fail
  refine (among_any r [44, 46, 47, 58] _ _ _ (by decide) (ints_new _ _ _ rfl _ _ (by simp))).mono ?_
  rintro e w1 ⟨rfl, rfl⟩
  obtain ⟨b2, hb2⟩ : ∃ b, List.contains [(44 : Int), 46, 47, 58] (r : Int) = b := ⟨_, rfl⟩
  rw [hb2]
  have HB2 := Lib.hid hb2
  clear hb2
  go_wp2_with fail
  refine (signs_const _).mono ?_
  rintro e w3 ⟨vo, vc, rfl, hI, hB3⟩
  have HI := Lib.hid hI
  clear hI
  go_wp2_with fail
  refine (among_any r sgL vo vc w3 (by decide) HI.out).mono ?_
  rintro e w4 ⟨rfl, rfl⟩
  obtain ⟨b3, hb3⟩ : ∃ b, List.contains sgL (r : Int) = b := ⟨_, rfl⟩
  rw [hb3]
  have HB3 := Lib.hid hb3
  clear hb3
  go_wp2_with fail
  refine (among_any r [9001, 9002, 12296, 12297] _ _ _ (by decide) (ints_new _ _ _ rfl _ _ (by simp))).mono ?_
  rintro e w4 ⟨rfl, rfl⟩
  obtain ⟨b4, hb4⟩ : ∃ b, List.contains [(9001 : Int), 9002, 12296, 12297] (r : Int) = b := ⟨_, rfl⟩
  rw [hb4]
  have HB4 := Lib.hid hb4
  clear hb4
  have hB : Below W.heap.size W (w3.alloc (.cells #[.int .i64 9001, .int .i64 9002, .int .i64 12296, .int .i64 12297] 3)) := ((((Below.refl _ _).alloc (Nat.le_refl _) _).alloc (by simp) _).trans (hB3.mono (by simp; omega))).alloc (by have := hB3.size; simp at this; omega) _
  have HB := Lib.hid hB
  clear hB hB3
  have k1 : List.contains [(35 : Int), 36, 37, 8364] (r : Int) = true ↔ r = 35 ∨ r = 36 ∨ r = 37 ∨ r = 8364 := c4_iff r 35 36 37 8364
  have k2 : List.contains [(44 : Int), 46, 47, 58] (r : Int) = true ↔ r = 44 ∨ r = 46 ∨ r = 47 ∨ r = 58 := c4_iff r 44 46 47 58
  have k3 := sg_iff r
  have k4 : List.contains [(9001 : Int), 9002, 12296, 12297] (r : Int) = true ↔ r = 9001 ∨ r = 9002 ∨ r = 12296 ∨ r = 12297 := c4_iff r 9001 9002 12296 12297
  rw [HB1.out] at k1
  rw [HB2.out] at k2
  rw [HB3.out] at k3
  rw [HB4.out] at k4
  have HK := Lib.hid (And.intro k1 (And.intro k2 (And.intro k3 k4)))
  clear k1 k2 k3 k4
  cases b1 with
  | true =>
    have HC : Hid (refC r = 5) := by
      obtain ⟨k1, k2, k3, k4⟩ := HK.out
      have h1 := k1.1 rfl
      have := HR.out
      have hc : refC r = 5 := by first | (exfalso; omega; done) | (unfold refC; repeat (first | rw [if_neg (by omega)] | rw [if_pos (by omega)]))
      exact hc
    clear HK
    go_wp2
    go_ret
    exact ⟨by rw [HC.out]; rfl, HB.out⟩
  | false =>
    cases b2 with
    | true =>
      have HC : Hid (refC r = 7) := by
        obtain ⟨k1, k2, k3, k4⟩ := HK.out
        have h1 := k2.1 rfl
        have := HR.out
        have hc : refC r = 7 := by first | (exfalso; omega; done) | (unfold refC; repeat (first | rw [if_neg (by omega)] | rw [if_pos (by omega)]))
        exact hc
      clear HK
      go_wp2
      go_ret
      exact ⟨by rw [HC.out]; rfl, HB.out⟩
    | false =>
      have HL : Hid ((r = 33 ∨ r = 34 ∨ (38 ≤ r ∧ r ≤ 42) ∨ (59 ≤ r ∧ r ≤ 64) ∨ (91 ≤ r ∧ r ≤ 96) ∨ (123 ≤ r ∧ r ≤ 126)) ∨ (r = 9001 ∨ r = 9002 ∨ r = 12296 ∨ r = 12297) → refC r = 12) := by
        obtain ⟨k1, k2, k3, k4⟩ := HK.out
        have h1 : ¬ (r = 35 ∨ r = 36 ∨ r = 37 ∨ r = 8364) := fun h => by have := k1.2 h; cases this
        have h2 : ¬ (r = 44 ∨ r = 46 ∨ r = 47 ∨ r = 58) := fun h => by have := k2.2 h; cases this
        have := HR.out
        intro h
        have hc : refC r = 12 := by first | (exfalso; omega; done) | (unfold refC; repeat (first | rw [if_neg (by omega)] | rw [if_pos (by omega)] | rw [if_pos h]))
        exact hc
      cases b3 with
      | true =>
        have HC : Hid (refC r = 12) := by
          obtain ⟨k1, k2, k3, k4⟩ := HK.out
          exact HL.out (.inl (k3.1 rfl))
        clear HK HL
        go_wp2
        go_ret
        exact ⟨by rw [HC.out]; rfl, HB.out⟩
      | false =>
        cases b4 with
        | true =>
          have HC : Hid (refC r = 12) := by
            obtain ⟨k1, k2, k3, k4⟩ := HK.out
            exact HL.out (.inr (k4.1 rfl))
          clear HK HL
          go_wp2
          go_ret
          exact ⟨by rw [HC.out]; rfl, HB.out⟩
        | false =>
          have HE : Hid (refC r = if r = 8234 then 13 else if r = 8235 then 14 else if r = 8237 then 15 else if r = 8238 then 16 else if r = 8236 then 17 else 0) := by
            obtain ⟨k1, k2, k3, k4⟩ := HK.out
            have h1 : ¬ (r = 35 ∨ r = 36 ∨ r = 37 ∨ r = 8364) := fun h => by have := k1.2 h; cases this
            have h2 : ¬ (r = 44 ∨ r = 46 ∨ r = 47 ∨ r = 58) := fun h => by have := k2.2 h; cases this
            have h3 : ¬ (r = 33 ∨ r = 34 ∨ (38 ≤ r ∧ r ≤ 42) ∨ (59 ≤ r ∧ r ≤ 64) ∨ (91 ≤ r ∧ r ≤ 96) ∨ (123 ≤ r ∧ r ≤ 126)) := fun h => by have := k3.2 h; cases this
            have h4 : ¬ (r = 9001 ∨ r = 9002 ∨ r = 12296 ∨ r = 12297) := fun h => by have := k4.2 h; cases this
            have := HR.out
            have hc : refC r = if r = 8234 then 13 else if r = 8235 then 14 else if r = 8237 then 15 else if r = 8238 then 16 else if r = 8236 then 17 else 0 := by
              unfold refC
              rw [if_neg (by omega), if_neg (by omega), if_neg (by omega), if_neg (by omega), if_neg (by omega), if_neg (by omega), if_neg (by omega), if_neg (by omega), if_neg (by omega), if_neg (by omega), if_neg (by omega), if_neg (by omega), if_neg (fun h => h.elim h3 h4)]
            exact hc
          clear HK HL
          have HC : Hid (refC r = 0) := by
            rw [HE.out]
            have := HR.out
            rw [if_neg (by omega), if_neg (by omega), if_neg (by omega), if_neg (by omega), if_neg (by omega)]
            exact rfl
          go_wp2
          go_ret
          exact ⟨by rw [HC.out]; rfl, HB.out⟩
set_option maxHeartbeats 600000 in
set_option maxRecDepth 100000 in
theorem gap5 (r : Nat) (W : World) (hlo : 1642 ≤ r) (hhi : r ≤ 8293) (n8195 : r ≠ 8195) (n8203 : r ≠ 8203) (n8207 : r ≠ 8207) : Calls Tryz.prog 43 #[.int .i64 r] W (ClPost r W) := by
  have z8207 : ((r : Int) == 8207) = false := by simp; omega
  have z1564 : ((r : Int) == 1564) = false := by simp; omega
  have z43 : ((r : Int) == 43) = false := by simp; omega
  have z45 : ((r : Int) == 45) = false := by simp; omega
  have z173 : ((r : Int) == 173) = false := by simp; omega
  have z8203 : ((r : Int) == 8203) = false := by simp; omega
  have z9 : ((r : Int) == 9) = false := by simp; omega
  have z32 : ((r : Int) == 32) = false := by simp; omega
  have z8195 : ((r : Int) == 8195) = false := by simp; omega
  have HR := Lib.hid (And.intro hlo (And.intro hhi (And.intro n8195 (And.intro n8203 (And.intro n8207 trivial)))))
  have hlo' : (1642 : Int) ≤ (r : Int) := by omega
  have hhi' : (r : Int) ≤ 8293 := by omega
  clear hlo hhi n8195 n8203 n8207
  go_enter Tryz.func43, Tryz.ntmps43
  go_wp2_with fail
  refine (among_any r [35, 36, 37, 8364] _ _ _ (by decide) (ints_new _ _ _ rfl _ _ (by simp))).mono ?_
  rintro e w1 ⟨rfl, rfl⟩
  obtain ⟨b1, hb1⟩ : ∃ b, List.contains [(35 : Int), 36, 37, 8364] (r : Int) = b := ⟨_, rfl⟩
  rw [hb1]
  have HB1 := Lib.hid hb1
  clear hb1
  go_wp2_with fail
  refine (among_any r [44, 46, 47, 58] _ _ _ (by decide) (ints_new _ _ _ rfl _ _ (by simp))).mono ?_
  rintro e w1 ⟨rfl, rfl⟩
  obtain ⟨b2, hb2⟩ : ∃ b, List.contains [(44 : Int), 46, 47, 58] (r : Int) = b := ⟨_, rfl⟩
  rw [hb2]
  have HB2 := Lib.hid hb2
  clear hb2
  go_wp2_with fail
  refine (signs_const _).mono ?_
  rintro e w3 ⟨vo, vc, rfl, hI, hB3⟩
  have HI := Lib.hid hI
  clear hI
  go_wp2_with fail
  refine (among_any r sgL vo vc w3 (by decide) HI.out).mono ?_
  rintro e w4 ⟨rfl, rfl⟩
  obtain ⟨b3, hb3⟩ : ∃ b, List.contains sgL (r : Int) = b := ⟨_, rfl⟩
  rw [hb3]
  have HB3 := Lib.hid hb3
  clear hb3
  go_wp2_with fail
  refine (among_any r [9001, 9002, 12296, 12297] _ _ _ (by decide) (ints_new _ _ _ rfl _ _ (by simp))).mono ?_
  rintro e w4 ⟨rfl, rfl⟩
  obtain ⟨b4, hb4⟩ : ∃ b, List.contains [(9001 : Int), 9002, 12296, 12297] (r : Int) = b := ⟨_, rfl⟩
  rw [hb4]
  have HB4 := Lib.hid hb4
  clear hb4
  have hB : Below W.heap.size W (w3.alloc (.cells #[.int .i64 9001, .int .i64 9002, .int .i64 12296, .int .i64 12297] 3)) := ((((Below.refl _ _).alloc (Nat.le_refl _) _).alloc (by simp) _).trans (hB3.mono (by simp; omega))).alloc (by have := hB3.size; simp at this; omega) _
  have HB := Lib.hid hB
  clear hB hB3
  have k1 : List.contains [(35 : Int), 36, 37, 8364] (r : Int) = true ↔ r = 35 ∨ r = 36 ∨ r = 37 ∨ r = 8364 := c4_iff r 35 36 37 8364
  have k2 : List.contains [(44 : Int), 46, 47, 58] (r : Int) = true ↔ r = 44 ∨ r = 46 ∨ r = 47 ∨ r = 58 := c4_iff r 44 46 47 58
  have k3 := sg_iff r
  have k4 : List.contains [(9001 : Int), 9002, 12296, 12297] (r : Int) = true ↔ r = 9001 ∨ r = 9002 ∨ r = 12296 ∨ r = 12297 := c4_iff r 9001 9002 12296 12297
  rw [HB1.out] at k1
  rw [HB2.out] at k2
  rw [HB3.out] at k3
  rw [HB4.out] at k4
  have HK := Lib.hid (And.intro k1 (And.intro k2 (And.intro k3 k4)))
  clear k1 k2 k3 k4
  cases b1 with
  | true =>
    have HC : Hid (refC r = 5) := by
      obtain ⟨k1, k2, k3, k4⟩ := HK.out
      have h1 := k1.1 rfl
      have := HR.out
      have hc : refC r = 5 := by first | (exfalso; omega; done) | (unfold refC; repeat (first | rw [if_neg (by omega)] | rw [if_pos (by omega)]))
      exact hc
    clear HK
    go_wp2
    go_ret
    exact ⟨by rw [HC.out]; rfl, HB.out⟩
  | false =>
    cases b2 with
    | true =>
      have HC : Hid (refC r = 7) := by
        obtain ⟨k1, k2, k3, k4⟩ := HK.out
        have h1 := k2.1 rfl
        have := HR.out
        have hc : refC r = 7 := by first | (exfalso; omega; done) | (unfold refC; repeat (first | rw [if_neg (by omega)] | rw [if_pos (by omega)]))
        exact hc
      clear HK
      go_wp2
      go_ret
      exact ⟨by rw [HC.out]; rfl, HB.out⟩
    | false =>
      have HL : Hid ((r = 33 ∨ r = 34 ∨ (38 ≤ r ∧ r ≤ 42) ∨ (59 ≤ r ∧ r ≤ 64) ∨ (91 ≤ r ∧ r ≤ 96) ∨ (123 ≤ r ∧ r ≤ 126)) ∨ (r = 9001 ∨ r = 9002 ∨ r = 12296 ∨ r = 12297) → refC r = 12) := by
        obtain ⟨k1, k2, k3, k4⟩ := HK.out
        have h1 : ¬ (r = 35 ∨ r = 36 ∨ r = 37 ∨ r = 8364) := fun h => by have := k1.2 h; cases this
        have h2 : ¬ (r = 44 ∨ r = 46 ∨ r = 47 ∨ r = 58) := fun h => by have := k2.2 h; cases this
        have := HR.out
        intro h
        have hc : refC r = 12 := by first | (exfalso; omega; done) | (unfold refC; repeat (first | rw [if_neg (by omega)] | rw [if_pos (by omega)] | rw [if_pos h]))
        exact hc
      cases b3 with
      | true =>
        have HC : Hid (refC r = 12) := by
          obtain ⟨k1, k2, k3, k4⟩ := HK.out
          exact HL.out (.inl (k3.1 rfl))
        clear HK HL
        go_wp2
        go_ret
        exact ⟨by rw [HC.out]; rfl, HB.out⟩
      | false =>
        cases b4 with
        | true =>
          have HC : Hid (refC r = 12) := by
            obtain ⟨k1, k2, k3, k4⟩ := HK.out
            exact HL.out (.inr (k4.1 rfl))
          clear HK HL
          go_wp2
          go_ret
          exact ⟨by rw [HC.out]; rfl, HB.out⟩
        | false =>
          have HE : Hid (refC r = if r = 8234 then 13 else if r = 8235 then 14 else if r = 8237 then 15 else if r = 8238 then 16 else if r = 8236 then 17 else 0) := by
            obtain ⟨k1, k2, k3, k4⟩ := HK.out
            have h1 : ¬ (r = 35 ∨ r = 36 ∨ r = 37 ∨ r = 8364) := fun h => by have := k1.2 h; cases this
            have h2 : ¬ (r = 44 ∨ r = 46 ∨ r = 47 ∨ r = 58) := fun h => by have := k2.2 h; cases this
            have h3 : ¬ (r = 33 ∨ r = 34 ∨ (38 ≤ r ∧ r ≤ 42) ∨ (59 ≤ r ∧ r ≤ 64) ∨ (91 ≤ r ∧ r ≤ 96) ∨ (123 ≤ r ∧ r ≤ 126)) := fun h => by have := k3.2 h; cases this
            have h4 : ¬ (r = 9001 ∨ r = 9002 ∨ r = 12296 ∨ r = 12297) := fun h => by have := k4.2 h; cases this
            have := HR.out
            have hc : refC r = if r = 8234 then 13 else if r = 8235 then 14 else if r = 8237 then 15 else if r = 8238 then 16 else if r = 8236 then 17 else 0 := by
              unfold refC
              rw [if_neg (by omega), if_neg (by omega), if_neg (by omega), if_neg (by omega), if_neg (by omega), if_neg (by omega), if_neg (by omega), if_neg (by omega), if_neg (by omega), if_neg (by omega), if_neg (by omega), if_neg (by omega), if_neg (fun h => h.elim h3 h4)]
            exact hc
          clear HK HL
          by_cases q0 : r = 8234
          · have HC : Hid (refC r = 13) := by
              rw [HE.out]
              rw [if_pos q0]
              exact rfl
            have e0 : ((r : Int) == 8234) = true := by simp; omega
            clear q0
            go_wp2
            go_ret
            exact ⟨by rw [HC.out]; rfl, HB.out⟩
          by_cases q1 : r = 8235
          · have HC : Hid (refC r = 14) := by
              rw [HE.out]
              rw [if_neg q0, if_pos q1]
              exact rfl
            have e0 : ((r : Int) == 8234) = false := by simp; omega
            have e1 : ((r : Int) == 8235) = true := by simp; omega
            clear q0 q1
            go_wp2
            go_ret
            exact ⟨by rw [HC.out]; rfl, HB.out⟩
          by_cases q2 : r = 8237
          · have HC : Hid (refC r = 15) := by
              rw [HE.out]
              rw [if_neg q0, if_neg q1, if_pos q2]
              exact rfl
            have e0 : ((r : Int) == 8234) = false := by simp; omega
            have e1 : ((r : Int) == 8235) = false := by simp; omega
            have e2 : ((r : Int) == 8237) = true := by simp; omega
            clear q0 q1 q2
            go_wp2
            go_ret
            exact ⟨by rw [HC.out]; rfl, HB.out⟩
          by_cases q3 : r = 8238
          · have HC : Hid (refC r = 16) := by
              rw [HE.out]
              rw [if_neg q0, if_neg q1, if_neg q2, if_pos q3]
              exact rfl
            have e0 : ((r : Int) == 8234) = false := by simp; omega
            have e1 : ((r : Int) == 8235) = false := by simp; omega
            have e2 : ((r : Int) == 8237) = false := by simp; omega
            have e3 : ((r : Int) == 8238) = true := by simp; omega
            clear q0 q1 q2 q3
            go_wp2
            go_ret
            exact ⟨by rw [HC.out]; rfl, HB.out⟩
          by_cases q4 : r = 8236
          · have HC : Hid (refC r = 17) := by
              rw [HE.out]
              rw [if_neg q0, if_neg q1, if_neg q2, if_neg q3, if_pos q4]
              exact rfl
            have e0 : ((r : Int) == 8234) = false := by simp; omega
            have e1 : ((r : Int) == 8235) = false := by simp; omega
            have e2 : ((r : Int) == 8237) = false := by simp; omega
            have e3 : ((r : Int) == 8238) = false := by simp; omega
            have e4 : ((r : Int) == 8236) = true := by simp; omega
            clear q0 q1 q2 q3 q4
            go_wp2
            go_ret
            exact ⟨by rw [HC.out]; rfl, HB.out⟩
          have HC : Hid (refC r = 0) := by
            rw [HE.out, if_neg q0, if_neg q1, if_neg q2, if_neg q3, if_neg q4]
            exact rfl
          have e0 : ((r : Int) == 8234) = false := by simp; omega
          have e1 : ((r : Int) == 8235) = false := by simp; omega
          have e2 : ((r : Int) == 8237) = false := by simp; omega
          have e3 : ((r : Int) == 8238) = false := by simp; omega
          have e4 : ((r : Int) == 8236) = false := by simp; omega
          clear q0 q1 q2 q3 q4
          go_wp2
          go_ret
          exact ⟨by rw [HC.out]; rfl, HB.out⟩
set_option maxHeartbeats 600000 in
set_option maxRecDepth 100000 in
theorem gap6 (r : Nat) (W : World) (hlo : 8298 ≤ r) (hhi : r ≤ 1114111) : Calls Tryz.prog 43 #[.int .i64 r] W (ClPost r W) := by
  have z8207 : ((r : Int) == 8207) = false := by simp; omega
  have z1564 : ((r : Int) == 1564) = false := by simp; omega
  have z43 : ((r : Int) == 43) = false := by simp; omega
  have z45 : ((r : Int) == 45) = false := by simp; omega
  have z173 : ((r : Int) == 173) = false := by simp; omega
  have z8203 : ((r : Int) == 8203) = false := by simp; omega
  have z9 : ((r : Int) == 9) = false := by simp; omega
  have z32 : ((r : Int) == 32) = false := by simp; omega
  have z8195 : ((r : Int) == 8195) = false := by simp; omega
  have z8234 : ((r : Int) == 8234) = false := by simp; omega
  have z8235 : ((r : Int) == 8235) = false := by simp; omega
  have z8237 : ((r : Int) == 8237) = false := by simp; omega
  have z8238 : ((r : Int) == 8238) = false := by simp; omega
  have z8236 : ((r : Int) == 8236) = false := by simp; omega
  have HR := Lib.hid (And.intro hlo (And.intro hhi trivial))
  have hlo' : (8298 : Int) ≤ (r : Int) := by omega
  have hhi' : (r : Int) ≤ 1114111 := by omega
  clear hlo hhi 
  go_enter Tryz.func43, Tryz.ntmps43
  go_wp2_with fail
  refine (among_any r [35, 36, 37, 8364] _ _ _ (by decide) (ints_new _ _ _ rfl _ _ (by simp))).mono ?_
  rintro e w1 ⟨rfl, rfl⟩
  obtain ⟨b1, hb1⟩ : ∃ b, List.contains [(35 : Int), 36, 37, 8364] (r : Int) = b := ⟨_, rfl⟩
  rw [hb1]
  have HB1 := Lib.hid hb1
  clear hb1
  go_wp2_with fail
  refine (among_any r [44, 46, 47, 58] _ _ _ (by decide) (ints_new _ _ _ rfl _ _ (by simp))).mono ?_
  rintro e w1 ⟨rfl, rfl⟩
  obtain ⟨b2, hb2⟩ : ∃ b, List.contains [(44 : Int), 46, 47, 58] (r : Int) = b := ⟨_, rfl⟩
  rw [hb2]
  have HB2 := Lib.hid hb2
  clear hb2
  go_wp2_with fail
  refine (signs_const _).mono ?_
  rintro e w3 ⟨vo, vc, rfl, hI, hB3⟩
  have HI := Lib.hid hI
  clear hI
  go_wp2_with fail
  refine (among_any r sgL vo vc w3 (by decide) HI.out).mono ?_
  rintro e w4 ⟨rfl, rfl⟩
  obtain ⟨b3, hb3⟩ : ∃ b, List.contains sgL (r : Int) = b := ⟨_, rfl⟩
  rw [hb3]
  have HB3 := Lib.hid hb3
  clear hb3
  go_wp2_with fail
  refine (among_any r [9001, 9002, 12296, 12297] _ _ _ (by decide) (ints_new _ _ _ rfl _ _ (by simp))).mono ?_
  rintro e w4 ⟨rfl, rfl⟩
  obtain ⟨b4, hb4⟩ : ∃ b, List.contains [(9001 : Int), 9002, 12296, 12297] (r : Int) = b := ⟨_, rfl⟩
  rw [hb4]
  have HB4 := Lib.hid hb4
  clear hb4
  have hB : Below W.heap.size W (w3.alloc (.cells #[.int .i64 9001, .int .i64 9002, .int .i64 12296, .int .i64 12297] 3)) := ((((Below.refl _ _).alloc (Nat.le_refl _) _).alloc (by simp) _).trans (hB3.mono (by simp; omega))).alloc (by have := hB3.size; simp at this; omega) _
  have HB := Lib.hid hB
  clear hB hB3
  have k1 : List.contains [(35 : Int), 36, 37, 8364] (r : Int) = true ↔ r = 35 ∨ r = 36 ∨ r = 37 ∨ r = 8364 := c4_iff r 35 36 37 8364
  have k2 : List.contains [(44 : Int), 46, 47, 58] (r : Int) = true ↔ r = 44 ∨ r = 46 ∨ r = 47 ∨ r = 58 := c4_iff r 44 46 47 58
  have k3 := sg_iff r
  have k4 : List.contains [(9001 : Int), 9002, 12296, 12297] (r : Int) = true ↔ r = 9001 ∨ r = 9002 ∨ r = 12296 ∨ r = 12297 := c4_iff r 9001 9002 12296 12297
  rw [HB1.out] at k1
  rw [HB2.out] at k2
  rw [HB3.out] at k3
  rw [HB4.out] at k4
  have HK := Lib.hid (And.intro k1 (And.intro k2 (And.intro k3 k4)))
  clear k1 k2 k3 k4
  cases b1 with
  | true =>
    have HC : Hid (refC r = 5) := by
      obtain ⟨k1, k2, k3, k4⟩ := HK.out
      have h1 := k1.1 rfl
      have := HR.out
      have hc : refC r = 5 := by first | (exfalso; omega; done) | (unfold refC; repeat (first | rw [if_neg (by omega)] | rw [if_pos (by omega)]))
      exact hc
    clear HK
    go_wp2
    go_ret
    exact ⟨by rw [HC.out]; rfl, HB.out⟩
  | false =>
    cases b2 with
    | true =>
      have HC : Hid (refC r = 7) := by
        obtain ⟨k1, k2, k3, k4⟩ := HK.out
        have h1 := k2.1 rfl
        have := HR.out
        have hc : refC r = 7 := by first | (exfalso; omega; done) | (unfold refC; repeat (first | rw [if_neg (by omega)] | rw [if_pos (by omega)]))
        exact hc
      clear HK
      go_wp2
      go_ret
      exact ⟨by rw [HC.out]; rfl, HB.out⟩
    | false =>
      have HL : Hid ((r = 33 ∨ r = 34 ∨ (38 ≤ r ∧ r ≤ 42) ∨ (59 ≤ r ∧ r ≤ 64) ∨ (91 ≤ r ∧ r ≤ 96) ∨ (123 ≤ r ∧ r ≤ 126)) ∨ (r = 9001 ∨ r = 9002 ∨ r = 12296 ∨ r = 12297) → refC r = 12) := by
        obtain ⟨k1, k2, k3, k4⟩ := HK.out
        have h1 : ¬ (r = 35 ∨ r = 36 ∨ r = 37 ∨ r = 8364) := fun h => by have := k1.2 h; cases this
        have h2 : ¬ (r = 44 ∨ r = 46 ∨ r = 47 ∨ r = 58) := fun h => by have := k2.2 h; cases this
        have := HR.out
        intro h
        have hc : refC r = 12 := by first | (exfalso; omega; done) | (unfold refC; repeat (first | rw [if_neg (by omega)] | rw [if_pos (by omega)] | rw [if_pos h]))
        exact hc
      cases b3 with
      | true =>
        have HC : Hid (refC r = 12) := by
          obtain ⟨k1, k2, k3, k4⟩ := HK.out
          exact HL.out (.inl (k3.1 rfl))
        clear HK HL
        go_wp2
        go_ret
        exact ⟨by rw [HC.out]; rfl, HB.out⟩
      | false =>
        cases b4 with
        | true =>
          have HC : Hid (refC r = 12) := by
            obtain ⟨k1, k2, k3, k4⟩ := HK.out
            exact HL.out (.inr (k4.1 rfl))
          clear HK HL
          go_wp2
          go_ret
          exact ⟨by rw [HC.out]; rfl, HB.out⟩
        | false =>
          have HE : Hid (refC r = if r = 8234 then 13 else if r = 8235 then 14 else if r = 8237 then 15 else if r = 8238 then 16 else if r = 8236 then 17 else 0) := by
            obtain ⟨k1, k2, k3, k4⟩ := HK.out
            have h1 : ¬ (r = 35 ∨ r = 36 ∨ r = 37 ∨ r = 8364) := fun h => by have := k1.2 h; cases this
            have h2 : ¬ (r = 44 ∨ r = 46 ∨ r = 47 ∨ r = 58) := fun h => by have := k2.2 h; cases this
            have h3 : ¬ (r = 33 ∨ r = 34 ∨ (38 ≤ r ∧ r ≤ 42) ∨ (59 ≤ r ∧ r ≤ 64) ∨ (91 ≤ r ∧ r ≤ 96) ∨ (123 ≤ r ∧ r ≤ 126)) := fun h => by have := k3.2 h; cases this
            have h4 : ¬ (r = 9001 ∨ r = 9002 ∨ r = 12296 ∨ r = 12297) := fun h => by have := k4.2 h; cases this
            have := HR.out
            have hc : refC r = if r = 8234 then 13 else if r = 8235 then 14 else if r = 8237 then 15 else if r = 8238 then 16 else if r = 8236 then 17 else 0 := by
              unfold refC
              rw [if_neg (by omega), if_neg (by omega), if_neg (by omega), if_neg (by omega), if_neg (by omega), if_neg (by omega), if_neg (by omega), if_neg (by omega), if_neg (by omega), if_neg (by omega), if_neg (by omega), if_neg (by omega), if_neg (fun h => h.elim h3 h4)]
            exact hc
          clear HK HL
          have HC : Hid (refC r = 0) := by
            rw [HE.out]
            have := HR.out
            rw [if_neg (by omega), if_neg (by omega), if_neg (by omega), if_neg (by omega), if_neg (by omega)]
            exact rfl
          go_wp2
          go_ret
          exact ⟨by rw [HC.out]; rfl, HB.out⟩
set_option maxHeartbeats 1000000 in
set_option maxRecDepth 100000 in
theorem iv0 (r : Nat) (W : World) (hlo : 1488 ≤ r) (hhi : r ≤ 1514) : Calls Tryz.prog 43 #[.int .i64 r] W (ClPost r W) := by
  have z8207 : ((r : Int) == 8207) = false := by simp; omega
  have z1564 : ((r : Int) == 1564) = false := by simp; omega
  have z43 : ((r : Int) == 43) = false := by simp; omega
  have z45 : ((r : Int) == 45) = false := by simp; omega
  have z173 : ((r : Int) == 173) = false := by simp; omega
  have z8203 : ((r : Int) == 8203) = false := by simp; omega
  have z9 : ((r : Int) == 9) = false := by simp; omega
  have z32 : ((r : Int) == 32) = false := by simp; omega
  have z8195 : ((r : Int) == 8195) = false := by simp; omega
  have HC := Lib.hid (show refC r = 1 by unfold refC; repeat (first | rw [if_neg (by omega)] | rw [if_pos (by omega)]))
  have hlo' : (1488 : Int) ≤ (r : Int) := by omega
  have hhi' : (r : Int) ≤ 1514 := by omega
  clear hlo hhi
  go_enter Tryz.func43, Tryz.ntmps43
  go_wp2
  go_ret
  exact ⟨by rw [HC.out]; rfl, Below.refl _ _⟩
set_option maxHeartbeats 1000000 in
set_option maxRecDepth 100000 in
theorem iv1 (r : Nat) (W : World) (hlo : 1575 ≤ r) (hhi : r ≤ 1610) : Calls Tryz.prog 43 #[.int .i64 r] W (ClPost r W) := by
  have z8207 : ((r : Int) == 8207) = false := by simp; omega
  have z1564 : ((r : Int) == 1564) = false := by simp; omega
  have z43 : ((r : Int) == 43) = false := by simp; omega
  have z45 : ((r : Int) == 45) = false := by simp; omega
  have z173 : ((r : Int) == 173) = false := by simp; omega
  have z8203 : ((r : Int) == 8203) = false := by simp; omega
  have z9 : ((r : Int) == 9) = false := by simp; omega
  have z32 : ((r : Int) == 32) = false := by simp; omega
  have z8195 : ((r : Int) == 8195) = false := by simp; omega
  have HC := Lib.hid (show refC r = 2 by unfold refC; repeat (first | rw [if_neg (by omega)] | rw [if_pos (by omega)]))
  have hlo' : (1575 : Int) ≤ (r : Int) := by omega
  have hhi' : (r : Int) ≤ 1610 := by omega
  clear hlo hhi
  go_enter Tryz.func43, Tryz.ntmps43
  go_wp2
  go_ret
  exact ⟨by rw [HC.out]; rfl, Below.refl _ _⟩
set_option maxHeartbeats 1000000 in
set_option maxRecDepth 100000 in
theorem iv2 (r : Nat) (W : World) (hlo : 48 ≤ r) (hhi : r ≤ 57) : Calls Tryz.prog 43 #[.int .i64 r] W (ClPost r W) := by
  have z8207 : ((r : Int) == 8207) = false := by simp; omega
  have z1564 : ((r : Int) == 1564) = false := by simp; omega
  have z43 : ((r : Int) == 43) = false := by simp; omega
  have z45 : ((r : Int) == 45) = false := by simp; omega
  have z173 : ((r : Int) == 173) = false := by simp; omega
  have z8203 : ((r : Int) == 8203) = false := by simp; omega
  have z9 : ((r : Int) == 9) = false := by simp; omega
  have z32 : ((r : Int) == 32) = false := by simp; omega
  have z8195 : ((r : Int) == 8195) = false := by simp; omega
  have HC := Lib.hid (show refC r = 3 by unfold refC; repeat (first | rw [if_neg (by omega)] | rw [if_pos (by omega)]))
  have hlo' : (48 : Int) ≤ (r : Int) := by omega
  have hhi' : (r : Int) ≤ 57 := by omega
  clear hlo hhi
  go_enter Tryz.func43, Tryz.ntmps43
  go_wp2
  go_ret
  exact ⟨by rw [HC.out]; rfl, Below.refl _ _⟩
set_option maxHeartbeats 1000000 in
set_option maxRecDepth 100000 in
theorem iv3 (r : Nat) (W : World) (hlo : 1632 ≤ r) (hhi : r ≤ 1641) : Calls Tryz.prog 43 #[.int .i64 r] W (ClPost r W) := by
  have z8207 : ((r : Int) == 8207) = false := by simp; omega
  have z1564 : ((r : Int) == 1564) = false := by simp; omega
  have z43 : ((r : Int) == 43) = false := by simp; omega
  have z45 : ((r : Int) == 45) = false := by simp; omega
  have z173 : ((r : Int) == 173) = false := by simp; omega
  have z8203 : ((r : Int) == 8203) = false := by simp; omega
  have z9 : ((r : Int) == 9) = false := by simp; omega
  have z32 : ((r : Int) == 32) = false := by simp; omega
  have z8195 : ((r : Int) == 8195) = false := by simp; omega
  have HC := Lib.hid (show refC r = 6 by unfold refC; repeat (first | rw [if_neg (by omega)] | rw [if_pos (by omega)]))
  have hlo' : (1632 : Int) ≤ (r : Int) := by omega
  have hhi' : (r : Int) ≤ 1641 := by omega
  clear hlo hhi
  go_enter Tryz.func43, Tryz.ntmps43
  go_wp2
  go_ret
  exact ⟨by rw [HC.out]; rfl, Below.refl _ _⟩
set_option maxHeartbeats 1000000 in
set_option maxRecDepth 100000 in
theorem iv4 (r : Nat) (W : World) (hlo : 768 ≤ r) (hhi : r ≤ 879) : Calls Tryz.prog 43 #[.int .i64 r] W (ClPost r W) := by
  have z8207 : ((r : Int) == 8207) = false := by simp; omega
  have z1564 : ((r : Int) == 1564) = false := by simp; omega
  have z43 : ((r : Int) == 43) = false := by simp; omega
  have z45 : ((r : Int) == 45) = false := by simp; omega
  have z173 : ((r : Int) == 173) = false := by simp; omega
  have z8203 : ((r : Int) == 8203) = false := by simp; omega
  have z9 : ((r : Int) == 9) = false := by simp; omega
  have z32 : ((r : Int) == 32) = false := by simp; omega
  have z8195 : ((r : Int) == 8195) = false := by simp; omega
  have HC := Lib.hid (show refC r = 8 by unfold refC; repeat (first | rw [if_neg (by omega)] | rw [if_pos (by omega)]))
  have hlo' : (768 : Int) ≤ (r : Int) := by omega
  have hhi' : (r : Int) ≤ 879 := by omega
  clear hlo hhi
  go_enter Tryz.func43, Tryz.ntmps43
  go_wp2
  go_ret
  exact ⟨by rw [HC.out]; rfl, Below.refl _ _⟩
set_option maxHeartbeats 1000000 in
set_option maxRecDepth 100000 in
theorem iv5 (r : Nat) (W : World) (hlo : 1611 ≤ r) (hhi : r ≤ 1618) : Calls Tryz.prog 43 #[.int .i64 r] W (ClPost r W) := by
  have z8207 : ((r : Int) == 8207) = false := by simp; omega
  have z1564 : ((r : Int) == 1564) = false := by simp; omega
  have z43 : ((r : Int) == 43) = false := by simp; omega
  have z45 : ((r : Int) == 45) = false := by simp; omega
  have z173 : ((r : Int) == 173) = false := by simp; omega
  have z8203 : ((r : Int) == 8203) = false := by simp; omega
  have z9 : ((r : Int) == 9) = false := by simp; omega
  have z32 : ((r : Int) == 32) = false := by simp; omega
  have z8195 : ((r : Int) == 8195) = false := by simp; omega
  have HC := Lib.hid (show refC r = 8 by unfold refC; repeat (first | rw [if_neg (by omega)] | rw [if_pos (by omega)]))
  have hlo' : (1611 : Int) ≤ (r : Int) := by omega
  have hhi' : (r : Int) ≤ 1618 := by omega
  clear hlo hhi
  go_enter Tryz.func43, Tryz.ntmps43
  go_wp2
  go_ret
  exact ⟨by rw [HC.out]; rfl, Below.refl _ _⟩
set_option maxHeartbeats 1000000 in
set_option maxRecDepth 100000 in
theorem iv6 (r : Nat) (W : World) (hlo : 8294 ≤ r) (hhi : r ≤ 8297) : Calls Tryz.prog 43 #[.int .i64 r] W (ClPost r W) := by
  have z8207 : ((r : Int) == 8207) = false := by simp; omega
  have z1564 : ((r : Int) == 1564) = false := by simp; omega
  have z43 : ((r : Int) == 43) = false := by simp; omega
  have z45 : ((r : Int) == 45) = false := by simp; omega
  have z173 : ((r : Int) == 173) = false := by simp; omega
  have z8203 : ((r : Int) == 8203) = false := by simp; omega
  have z9 : ((r : Int) == 9) = false := by simp; omega
  have z32 : ((r : Int) == 32) = false := by simp; omega
  have z8195 : ((r : Int) == 8195) = false := by simp; omega
  have HC := Lib.hid (show refC r = 18 + r - 8294 by unfold refC; repeat (first | rw [if_neg (by omega)] | rw [if_pos (by omega)]))
  have hlo' : (8294 : Int) ≤ (r : Int) := by omega
  have hhi' : (r : Int) ≤ 8297 := by omega
  go_enter Tryz.func43, Tryz.ntmps43
  go_wp2
  go_ret
  exact ⟨by rw [HC.out]; exact congrArg Ending.returned (congrArg (Value.int .i64) (by omega : 18 + (r : Int) - 8294 = ((18 + r - 8294 : Nat) : Int))), Below.refl _ _⟩
set_option maxHeartbeats 1000000 in
set_option maxRecDepth 100000 in
theorem pt8207 (W : World) : Calls Tryz.prog 43 #[.int .i64 (8207 : Nat)] W (ClPost 8207 W) := by
  go_enter Tryz.func43, Tryz.ntmps43
  go_wp2
  go_ret
  exact ⟨rfl, Below.refl _ _⟩
set_option maxHeartbeats 1000000 in
set_option maxRecDepth 100000 in
theorem pt1564 (W : World) : Calls Tryz.prog 43 #[.int .i64 (1564 : Nat)] W (ClPost 1564 W) := by
  go_enter Tryz.func43, Tryz.ntmps43
  go_wp2
  go_ret
  exact ⟨rfl, Below.refl _ _⟩
set_option maxHeartbeats 1000000 in
set_option maxRecDepth 100000 in
theorem pt43 (W : World) : Calls Tryz.prog 43 #[.int .i64 (43 : Nat)] W (ClPost 43 W) := by
  go_enter Tryz.func43, Tryz.ntmps43
  go_wp2
  go_ret
  exact ⟨rfl, Below.refl _ _⟩
set_option maxHeartbeats 1000000 in
set_option maxRecDepth 100000 in
theorem pt45 (W : World) : Calls Tryz.prog 43 #[.int .i64 (45 : Nat)] W (ClPost 45 W) := by
  go_enter Tryz.func43, Tryz.ntmps43
  go_wp2
  go_ret
  exact ⟨rfl, Below.refl _ _⟩
set_option maxHeartbeats 1000000 in
set_option maxRecDepth 100000 in
theorem pt173 (W : World) : Calls Tryz.prog 43 #[.int .i64 (173 : Nat)] W (ClPost 173 W) := by
  go_enter Tryz.func43, Tryz.ntmps43
  go_wp2
  go_ret
  exact ⟨rfl, Below.refl _ _⟩
set_option maxHeartbeats 1000000 in
set_option maxRecDepth 100000 in
theorem pt8203 (W : World) : Calls Tryz.prog 43 #[.int .i64 (8203 : Nat)] W (ClPost 8203 W) := by
  go_enter Tryz.func43, Tryz.ntmps43
  go_wp2
  go_ret
  exact ⟨rfl, Below.refl _ _⟩
set_option maxHeartbeats 1000000 in
set_option maxRecDepth 100000 in
theorem pt9 (W : World) : Calls Tryz.prog 43 #[.int .i64 (9 : Nat)] W (ClPost 9 W) := by
  go_enter Tryz.func43, Tryz.ntmps43
  go_wp2
  go_ret
  exact ⟨rfl, Below.refl _ _⟩
set_option maxHeartbeats 1000000 in
set_option maxRecDepth 100000 in
theorem pt32 (W : World) : Calls Tryz.prog 43 #[.int .i64 (32 : Nat)] W (ClPost 32 W) := by
  go_enter Tryz.func43, Tryz.ntmps43
  go_wp2
  go_ret
  exact ⟨rfl, Below.refl _ _⟩
set_option maxHeartbeats 1000000 in
set_option maxRecDepth 100000 in
theorem pt8195 (W : World) : Calls Tryz.prog 43 #[.int .i64 (8195 : Nat)] W (ClPost 8195 W) := by
  go_enter Tryz.func43, Tryz.ntmps43
  go_wp2
  go_ret
  exact ⟨rfl, Below.refl _ _⟩
theorem class_any (r : Nat) (W : World) (hr : r ≤ 1114111) : Calls Tryz.prog 43 #[.int .i64 r] W (ClPost r W) := by
  by_cases p8207 : r = 8207
  · subst p8207; exact pt8207 W
  by_cases p1564 : r = 1564
  · subst p1564; exact pt1564 W
  by_cases p43 : r = 43
  · subst p43; exact pt43 W
  by_cases p45 : r = 45
  · subst p45; exact pt45 W
  by_cases p173 : r = 173
  · subst p173; exact pt173 W
  by_cases p8203 : r = 8203
  · subst p8203; exact pt8203 W
  by_cases p9 : r = 9
  · subst p9; exact pt9 W
  by_cases p32 : r = 32
  · subst p32; exact pt32 W
  by_cases p8195 : r = 8195
  · subst p8195; exact pt8195 W
  by_cases c0 : r ≤ 47
  · exact gap0 r W (by omega) (by omega) p9 p32 p43 p45
  by_cases c48 : r ≤ 57
  · exact iv2 r W (by omega) (by omega)
  by_cases c58 : r ≤ 767
  · exact gap1 r W (by omega) (by omega) p173
  by_cases c768 : r ≤ 879
  · exact iv4 r W (by omega) (by omega)
  by_cases c880 : r ≤ 1487
  · exact gap2 r W (by omega) (by omega)
  by_cases c1488 : r ≤ 1514
  · exact iv0 r W (by omega) (by omega)
  by_cases c1515 : r ≤ 1574
  · exact gap3 r W (by omega) (by omega) p1564
  by_cases c1575 : r ≤ 1610
  · exact iv1 r W (by omega) (by omega)
  by_cases c1611 : r ≤ 1618
  · exact iv5 r W (by omega) (by omega)
  by_cases c1619 : r ≤ 1631
  · exact gap4 r W (by omega) (by omega)
  by_cases c1632 : r ≤ 1641
  · exact iv3 r W (by omega) (by omega)
  by_cases c1642 : r ≤ 8293
  · exact gap5 r W (by omega) (by omega) p8195 p8203 p8207
  by_cases c8294 : r ≤ 8297
  · exact iv6 r W (by omega) (by omega)
  exact gap6 r W (by omega) (by omega)
end Go.Proofs.YtcnpkijjnbhagaaGreatDoor
