/- Line feeds in a valid text, and how many runes a conversion gives. No program in sight. -/
import Derived.Test.YtcnpkijjnbhagaaGreatDoorCrunes
import Derived.Lib.IndexAny
namespace Go.Proofs.YtcnpkijjnbhagaaGreatDoor
open Go.RowKit Go.Lib

theorem sz_big {l : List UInt8} {n : Nat} (h : szF l = n) (hn : 2 ≤ n) : 128 ≤ valF l (2 ^ (7 - n)) n := by
  unfold szF szG at h
  repeat' split at h
  all_goals first | (exfalso; omega) | (subst h; simp only [Nat.reduceSub, Nat.reducePow]; omega)
theorem runesFrom_size (s : ByteArray) : ∀ (n i : Nat) (acc : Array Value), s.size - i ≤ n → (Conv.runesFrom s n i acc).size = acc.size + (runesOf (s.data.toList.drop i)).length
  | 0, i, acc, h => by
    have : s.data.toList.drop i = [] := List.drop_eq_nil_of_le (by simp; omega)
    simp [Conv.runesFrom, this, runes_nil]
  | n + 1, i, acc, h => by
    unfold Conv.runesFrom
    by_cases hi : i < s.size
    · have hne : s.data.toList.drop i ≠ [] := by
        intro h0
        have := congrArg List.length h0
        simp at this
        omega
      have hw := decodeL_width (s.data.toList.drop i)
      rw [if_pos hi, runes_step _ hne]
      simp only
      rw [runesFrom_size s n _ _ (by rw [← decodeL_drop]; omega), decodeL_drop, List.drop_drop]
      simp
      omega
    · have : s.data.toList.drop i = [] := List.drop_eq_nil_of_le (by simp; omega)
      rw [if_neg hi, this]
      simp [runes_nil]
theorem valid_ten : ∀ (n : Nat) (l : List UInt8), l.length ≤ n → validD l = true → (10 ∈ runesOf l ↔ (10 : UInt8) ∈ l)
  | 0, l, h, _ => by
    have : l = [] := List.length_eq_zero_iff.1 (by omega)
    subst this
    simp [runes_nil]
  | n + 1, l, h, hv => by
    by_cases hne : l = []
    · subst hne; simp [runes_nil]
    · have hw := decodeL_width l
      have hd := decodeL_le l hne
      have hl0 : 0 < l.length := List.length_pos_iff.2 hne
      rw [validD_step l hne] at hv
      split at hv
      · cases hv
      · rename_i hgood
        have ih := valid_ten n (l.drop (decodeL l).2) (by simp; omega) hv
        rw [runes_step l hne, List.mem_cons, ih]
        rcases sz_dec l hne with ⟨_, h1, h2⟩ | ⟨h1, h2, h3, h4, h5⟩
        · exact absurd ⟨h1, h2⟩ hgood
        · have hmem : ((10 : UInt8) ∈ l) ↔ (10 : UInt8) ∈ l.take (szF l) ∨ (10 : UInt8) ∈ l.drop (szF l) := by
            rw [← List.mem_append, List.take_append_drop]
          rw [h3, hmem, h4]
          suffices hh : 10 = rnF l ↔ (10 : UInt8) ∈ l.take (szF l) by rw [hh]
          by_cases hs1 : szF l = 1
          · have hb : rnF l = byF l 0 := by unfold rnF; rw [if_pos hs1]
            rw [hb, hs1]
            cases l with
            | nil => exact absurd rfl hne
            | cons a r =>
              simp only [byF, List.getD_cons_zero, List.take_succ_cons, List.take_zero, List.mem_singleton]
              constructor
              · intro h; exact UInt8.toNat_inj.1 h
              · intro h; rw [← h]; rfl
          · have hb : rnF l = valF l (2 ^ (7 - szF l)) (szF l) := by unfold rnF; rw [if_neg hs1]
            obtain ⟨hc, hln⟩ := sz_cont (rfl : szF l = szF l) (by omega)
            have h128 : ∀ j, j < szF l → 128 ≤ byF l j := by
              intro j hj
              rcases Nat.eq_zero_or_pos j with rfl | hj0
              · unfold szF at hs1
                by_cases c : byF l 0 < 128
                · rw [if_pos c] at hs1; exact absurd rfl hs1
                · omega
              · exact (hc j hj hj0).1
            have hbig : 128 ≤ rnF l := by
              rw [hb]
              exact sz_big rfl (by omega)
            constructor
            · intro h; omega
            · intro h
              obtain ⟨j, hj, he⟩ := List.getElem_of_mem h
              simp only [List.length_take] at hj
              have h1 := h128 j (by omega)
              rw [List.getElem_take] at he
              have : byF l j = 10 := by
                unfold byF
                rw [List.getD_eq_getElem?_getD, List.getElem?_eq_getElem (by omega)]
                simp [he]
              omega
theorem has_ten (s : ByteArray) (hv : validD s.data.toList = true) : decide (0 ≤ indexByte s.data.toList 10) = decide (10 ∈ runesOf s.data.toList) := by
  rw [← contains_iff_indexByte, Bool.eq_iff_iff]
  simp only [List.contains_eq_mem, decide_eq_true_eq]
  exact (valid_ten _ _ (Nat.le_refl _) hv).symm
end Go.Proofs.YtcnpkijjnbhagaaGreatDoor
