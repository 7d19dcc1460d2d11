/- How many parts a text has, at the most. No program in sight. -/
import Derived.Test.YtcnpkijjnbhagaaGreatDoorGp
namespace Go.Proofs.YtcnpkijjnbhagaaGreatDoor
theorem evF_len (kd bd en f st ln bg : Nat) : (evF kd bd en f st ln bg).length ≤ st - f := by
  unfold evF; split
  · simp; omega
  · simp
theorem tellF_len (l : List UInt8) (kd t bd en : Nat) : ∀ (n f ln bg : Nat), t - f ≤ n → f ≤ t → (tellF l kd f t bd en ln bg).1.length ≤ t - f
  | n, f, ln, bg, hn, hft => by
    by_cases hf : f < t
    · have h1 := stopF_ge l f t
      have h2 := stopF_le l f t hft
      have h3 := evF_len kd bd en f (stopF l f t) ln bg
      by_cases hst : stopF l f t < t
      · rw [tellF_more l kd f t bd en ln bg hf hst]
        match n, hn with
        | n + 1, hn =>
          have := tellF_len l kd t bd en n (stopF l f t + 1) (ln + 1) (stopF l f t + 1) (by omega) (by omega)
          simp only [List.length_append]
          omega
        | 0, hn => omega
      · rw [tellF_last l kd f t bd en ln bg hf hst]
        simp only
        omega
    · rw [tellF_done l kd f t bd en ln bg hf]
      simp
termination_by n => n
theorem eachF_len (l : List UInt8) : ∀ (n p c ln bg : Nat), l.length - p ≤ n → c ≤ p → p ≤ l.length → (eachF l p c ln bg).length ≤ l.length - c
  | n, p, c, ln, bg, hn, hcp, hpl => by
    have h1 := tellF_len l 0 p p p _ c ln bg (Nat.le_refl _) hcp
    by_cases hp : p < l.length
    · match n, hn with
      | 0, hn => omega
      | n + 1, hn =>
        by_cases h0 : (tokF (l.drop p)).1 = 0
        · rw [eachF_code l p c ln bg hp h0]
          exact eachF_len l n (p + 1) c ln bg (by omega) (by omega) (by omega)
        · obtain ⟨kd, sz, bd, en, hk⟩ : ∃ kd sz bd en, tokF (l.drop p) = (kd, sz, bd, en) := ⟨_, _, _, _, rfl⟩
          have hs := tokF_size (l.drop p)
          have hl := tokF_le (l.drop p) (by intro h; have := congrArg List.length h; simp at this; omega)
          rw [hk] at hs hl
          simp at hs hl
          rw [eachF_tok l p c ln bg hp h0 kd sz bd en hk]
          have h2 := tellF_len l kd (p + sz) (p + bd) (p + en) _ p (tellF l 0 c p p p ln bg).2.1 (tellF l 0 c p p p ln bg).2.2 (Nat.le_refl _) (by omega)
          have h3 := eachF_len l n (p + sz) (p + sz) (tellF l kd p (p + sz) (p + bd) (p + en) (tellF l 0 c p p p ln bg).2.1 (tellF l 0 c p p p ln bg).2.2).2.1 (tellF l kd p (p + sz) (p + bd) (p + en) (tellF l 0 c p p p ln bg).2.1 (tellF l 0 c p p p ln bg).2.2).2.2 (by omega) (Nat.le_refl _) (by omega)
          simp only [List.length_append]
          omega
    · rw [eachF_end l p c ln bg hp]
      omega
termination_by n => n
/-- How many parts there are. -/
theorem parts_len (s : ByteArray) : (partsOf s).length ≤ 600 := by
  unfold partsOf
  split
  · have := eachF_len s.data.toList _ 0 0 0 0 (Nat.le_refl _) (Nat.le_refl _) (Nat.zero_le _)
    have h : s.data.toList.length = s.size := by simp
    omega
  · simp
end Go.Proofs.YtcnpkijjnbhagaaGreatDoor
