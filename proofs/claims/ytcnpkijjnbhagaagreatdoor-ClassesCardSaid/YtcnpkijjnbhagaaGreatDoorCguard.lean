/- The program's runes of a line, walked. -/
import Derived.Test.YtcnpkijjnbhagaaGreatDoorCrefc
import Derived.Test.YtcnpkijjnbhagaaGreatDoorCpure
import Derived.Test.YtcnpkijjnbhagaaGreatDoorVal
import Derived.Test.YtcnpkijjnbhagaaGreatDoorShelf
namespace Go.Proofs.YtcnpkijjnbhagaaGreatDoor
open Go.RowKit Go.Lib

/-- An error as the program has it. -/
def ev (k : Nat) (a0 a1 : Addr) : Value := if k = 0 then .nilIface else if k = 1 then .iface 268 (.pointer (some a0)) else .iface 268 (.pointer (some a1))
def GrPost (s : ByteArray) (a0 a1 : Addr) (W : World) (e : Ending) (w' : World) : Prop :=
  ∃ v, e = .returned (.tuple #[v, ev (faultF s) a0 a1]) ∧ (faultF s = 0 → ∃ g c, v = .slice (some ⟨g, 0, none⟩) (runesOf s.data.toList).length c) ∧ (faultF s ≠ 0 → v = .slice none 0 0) ∧ Below W.heap.size W w'
set_option maxHeartbeats 1000000 in
set_option maxRecDepth 100000 in
theorem gruns_any (s : ByteArray) (a0 a1 : Addr) (W : World) (h0 : W.cell? ⟨0, 0, none⟩ = some (.iface 268 (.pointer (some a0)))) (h1 : W.cell? ⟨1, 0, none⟩ = some (.iface 268 (.pointer (some a1))))
    (hT : Lib.Utf8Tabs 6 7 W) : Calls Tryz.prog 36 #[.string s] W (GrPost s a0 a1 W) := by
  have HT := Lib.hid hT
  clear hT
  have hb0 := World.block_lt_of_cell? W ⟨0, 0, none⟩ h0
  have hb1 := World.block_lt_of_cell? W ⟨1, 0, none⟩ h1
  by_cases h6 : 600 < s.size
  · have hF := Lib.hid (show faultF s = 1 by unfold faultF; rw [if_pos h6])
    go_enter Tryz.func36, Tryz.ntmps36
    go_wp2
    go_quiet (fail)
    go_wp2
    go_ret2
    exact ⟨_, by rw [hF.out]; rfl, (fun h => by rw [hF.out] at h; cases h), fun _ => rfl, below_drewNv (Below.refl _ _) _⟩
  · have h6' : s.size ≤ 600 := by omega
    have hls : s.data.toList.length = s.size := by simp
    have hrl := runes_len _ s.data.toList (Nat.le_refl _)
    have hrs := runesFrom_size s s.size 0 #[] (by omega)
    rw [List.drop_zero] at hrs
    simp only [List.size_toArray, List.length_nil, Nat.zero_add] at hrs
    obtain ⟨n, hn⟩ : ∃ n, n = (runesOf s.data.toList).length := ⟨_, rfl⟩
    have hn6 : n ≤ 600 := by omega
    rw [← hn] at hrs
    have HN := Lib.hid hn
    have HRS := Lib.hid hrs
    clear hn hrs hrl hls h6
    obtain ⟨b, hb⟩ : ∃ b, b = validD s.data.toList := ⟨_, rfl⟩
    have HV := Lib.hid hb
    clear hb
    go_enter Tryz.func36, Tryz.ntmps36
    go_wp2_with fail
    refine (Tryz.utf8_ValidString s W (by omega) HT.out).mono ?_
    rintro e w1 ⟨rfl, hB⟩
    have k0 := (hB.cell (p := ⟨0, 0, none⟩) hb0).trans h0
    have k1 := (hB.cell (p := ⟨1, 0, none⟩) hb1).trans h1
    rw [← HV.out]
    cases b with
    | false =>
      have hF := Lib.hid (show faultF s = 2 by unfold faultF; rw [if_neg (by omega), if_pos (.inl HV.out.symm)])
      go_wp2
      go_quiet (fail)
      go_wp2
      go_ret2
      exact ⟨_, by rw [hF.out]; rfl, (fun h => by rw [hF.out] at h; cases h), fun _ => rfl, below_drewNv hB _⟩
    | true =>
      have hten := has_ten s HV.out.symm
      go_wp2_with fail
      refine (Tryz.strings_Contains_one s 10 w1).mono ?_
      rintro e w2 ⟨rfl, rfl⟩
      rw [hten]
      clear hten
      by_cases ht : 10 ∈ runesOf s.data.toList
      · have hF := Lib.hid (show faultF s = 2 by unfold faultF; rw [if_neg (by omega), if_pos (.inr ht)])
        rw [decide_eq_true ht]
        clear ht
        go_wp2
        go_quiet (fail)
        go_wp2
        go_ret2
        exact ⟨_, by rw [hF.out]; rfl, (fun h => by rw [hF.out] at h; cases h), fun _ => rfl, below_drewNv hB _⟩
      · rw [decide_eq_false ht]
        have hno : ¬ (validD s.data.toList = false ∨ 10 ∈ runesOf s.data.toList) := fun h => h.elim (fun h => by rw [← HV.out] at h; cases h) ht
        have HNo := Lib.hid hno
        clear ht hno
        have hconv := run_runes_of_string (P := Tryz.prog) w2 9 74 21 s Tryz.underlying9 Tryz.underlying74 Tryz.underlying21 (by rw [HRS.out]; omega)
        rw [HRS.out] at hconv
        have HC := Lib.hid hconv
        clear hconv
        go_wp2
        rw [HC.out]
        simp only [Result.andThen]
        rw [Oper.upon_value]
        obtain ⟨cap, hcap⟩ : ∃ cap, cap = grownCap w2 n 0 21 := ⟨_, rfl⟩
        rw [← hcap]
        obtain ⟨o, ho⟩ : ∃ o, o = Obj.cells (Conv.runesFrom s s.size 0 #[] ++ Array.replicate (cap - n) (.int .i32 0)) 21 := ⟨_, rfl⟩
        rw [← ho]
        have hB2 : Below W.heap.size W (w2.alloc o).drew := (hB.alloc hB.size o).drew
        have l0 := (((Below.refl w2.heap.size w2).alloc (Nat.le_refl _) o).cell (p := ⟨0, 0, none⟩) (Nat.lt_of_lt_of_le hb0 hB.size)).trans k0
        have HB2 := Lib.hid hB2
        clear hB2 hcap ho HC
        by_cases h3 : 300 < n
        · have hF := Lib.hid (show faultF s = 1 by unfold faultF; rw [if_neg (by omega), if_neg HNo.out, if_pos (by rw [← HN.out]; exact h3)])
          go_wp2
          go_quiet (fail)
          go_wp2
          go_ret2
          exact ⟨_, by rw [hF.out]; rfl, (fun h => by rw [hF.out] at h; cases h), fun _ => rfl, below_drewNv HB2.out _⟩
        · have hF := Lib.hid (show faultF s = 0 by unfold faultF; rw [if_neg (by omega), if_neg HNo.out, if_neg (by rw [← HN.out]; exact h3)])
          go_wp2
          go_ret2
          exact ⟨_, by rw [hF.out]; rfl, fun _ => ⟨_, cap, by rw [← HN.out]; rfl⟩, fun h => absurd hF.out h, HB2.out⟩
end Go.Proofs.YtcnpkijjnbhagaaGreatDoor
