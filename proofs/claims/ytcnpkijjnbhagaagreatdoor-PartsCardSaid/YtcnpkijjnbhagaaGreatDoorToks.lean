/- The reference's tokens, in plain words: what the reader of tokens tells is what the reference's tokens tell, line by line. No program in sight. -/
import Derived.Test.YtcnpkijjnbhagaaGreatDoorLex
namespace Go.Proofs.YtcnpkijjnbhagaaGreatDoor

/-- A token of the reference. -/
structure Tk where
  kd : Nat
  fr : Nat
  to : Nat
  bd : Nat
  en : Nat
/-- The code that is open. -/
def pend (c p : Nat) : List Tk := if c < p then [⟨0, c, p, 0, 0⟩] else []
/-- The reference's word at a place. -/
def wordF (l : List UInt8) (p : Nat) : Tk :=
  if (tokF (l.drop p)).1 = 0 then ⟨0, p, p + 1, 0, 0⟩ else ⟨(tokF (l.drop p)).1, p, p + (tokF (l.drop p)).2.1, p + (tokF (l.drop p)).2.2.1, p + (tokF (l.drop p)).2.2.2⟩
/-- The tokens from place p on, the code that is open having begun at c. -/
def toksN (l : List UInt8) : Nat → Nat → Nat → List Tk
  | 0, p, c => pend c p
  | n + 1, p, c =>
    if p < l.length then
      if (tokF (l.drop p)).1 = 0 then toksN l n (p + 1) c
      else pend c p ++ wordF l p :: toksN l n (p + (tokF (l.drop p)).2.1) (p + (tokF (l.drop p)).2.1)
    else pend c p
def toksF (l : List UInt8) (p c : Nat) : List Tk := toksN l (l.length - p) p c
theorem toksN_fuel (l : List UInt8) : ∀ (n p c : Nat), l.length - p ≤ n → toksN l n p c = toksN l (l.length - p) p c
  | 0, p, c, h => by rw [show l.length - p = 0 from by omega]
  | n + 1, p, c, h => by
    by_cases hp : p < l.length
    · obtain ⟨m, hm⟩ : ∃ m, l.length - p = m + 1 := ⟨l.length - p - 1, by omega⟩
      have hs := tokF_size (l.drop p)
      rw [hm]
      simp only [toksN, if_pos hp]
      by_cases h0 : (tokF (l.drop p)).1 = 0
      · simp only [if_pos h0]
        rw [toksN_fuel l n (p + 1) c (by omega), toksN_fuel l m (p + 1) c (by omega)]
      · simp only [if_neg h0]
        rw [toksN_fuel l n (p + _) _ (by omega), toksN_fuel l m (p + _) _ (by omega)]
    · rw [show l.length - p = 0 from by omega]
      simp [toksN, hp]
theorem toksF_end (l : List UInt8) (p c : Nat) (h : ¬ p < l.length) : toksF l p c = pend c p := by
  unfold toksF; rw [show l.length - p = 0 from by omega]; rfl
theorem toksF_code (l : List UInt8) (p c : Nat) (h : p < l.length) (h0 : (tokF (l.drop p)).1 = 0) : toksF l p c = toksF l (p + 1) c := by
  unfold toksF
  obtain ⟨m, hm⟩ : ∃ m, l.length - p = m + 1 := ⟨l.length - p - 1, by omega⟩
  rw [hm, toksN, if_pos h, if_pos h0, toksN_fuel l m (p + 1) c (by omega)]
theorem toksF_tok (l : List UInt8) (p c : Nat) (h : p < l.length) (h0 : (tokF (l.drop p)).1 ≠ 0) :
    toksF l p c = pend c p ++ wordF l p :: toksF l (wordF l p).to (wordF l p).to := by
  have hs := tokF_size (l.drop p)
  unfold toksF
  obtain ⟨m, hm⟩ : ∃ m, l.length - p = m + 1 := ⟨l.length - p - 1, by omega⟩
  have hw : (wordF l p).to = p + (tokF (l.drop p)).2.1 := by unfold wordF; rw [if_neg h0]
  rw [hm, toksN, if_pos h, if_neg h0, hw, toksN_fuel l m (p + _) _ (by omega)]

/-- What is told of tokens. -/
def tellsF (l : List UInt8) : List Tk → Nat → Nat → List Pt
  | [], _, _ => []
  | t :: r, ln, bg => (tellF l t.kd t.fr t.to t.bd t.en ln bg).1 ++ tellsF l r (tellF l t.kd t.fr t.to t.bd t.en ln bg).2.1 (tellF l t.kd t.fr t.to t.bd t.en ln bg).2.2
theorem evF_code (bd en bd' en' f st ln bg : Nat) : evF 0 bd en f st ln bg = evF 0 bd' en' f st ln bg := by simp [evF]
theorem tellN_code (l : List UInt8) (bd en bd' en' t : Nat) : ∀ (n f ln bg : Nat), tellN l 0 bd en t n f ln bg = tellN l 0 bd' en' t n f ln bg
  | 0, _, _, _ => rfl
  | n + 1, f, ln, bg => by
    simp only [tellN]
    rw [tellN_code l bd en bd' en' t n, evF_code bd en bd' en']
theorem tellF_code (l : List UInt8) (f t bd en bd' en' ln bg : Nat) : tellF l 0 f t bd en ln bg = tellF l 0 f t bd' en' ln bg := tellN_code ..
theorem tells_pend (l : List UInt8) (c p x y ln bg : Nat) (r : List Tk) :
    tellsF l (pend c p ++ r) ln bg = (tellF l 0 c p x y ln bg).1 ++ tellsF l r (tellF l 0 c p x y ln bg).2.1 (tellF l 0 c p x y ln bg).2.2 := by
  unfold pend
  by_cases h : c < p
  · rw [if_pos h, tellF_code l c p x y 0 0]
    rfl
  · rw [if_neg h, tellF_done l 0 c p x y ln bg h]
    simp
theorem each_toks (l : List UInt8) : ∀ (n p c ln bg : Nat), l.length - p ≤ n → eachF l p c ln bg = tellsF l (toksF l p c) ln bg
  | n, p, c, ln, bg, hn => by
    by_cases hp : p < l.length
    · match n, hn with
      | 0, hn => omega
      | n + 1, hn =>
        by_cases h0 : (tokF (l.drop p)).1 = 0
        · rw [eachF_code l p c ln bg hp h0, toksF_code l p c hp h0]
          exact each_toks l n (p + 1) c ln bg (by omega)
        · have hs := tokF_size (l.drop p)
          have hw : wordF l p = ⟨(tokF (l.drop p)).1, p, p + (tokF (l.drop p)).2.1, p + (tokF (l.drop p)).2.2.1, p + (tokF (l.drop p)).2.2.2⟩ := by unfold wordF; rw [if_neg h0]
          obtain ⟨kd, sz, bd, en, hk⟩ : ∃ kd sz bd en, tokF (l.drop p) = (kd, sz, bd, en) := ⟨_, _, _, _, rfl⟩
          rw [toksF_tok l p c hp h0, tells_pend l c p p p, eachF_tok l p c ln bg hp h0 kd sz bd en hk]
          rw [hk] at hw hs
          simp only at hw hs
          rw [each_toks l n (p + sz) (p + sz) _ _ (by omega), tellsF, hw]
          simp only [List.append_assoc]
    · rw [eachF_end l p c ln bg hp, toksF_end l p c hp]
      have := tells_pend l c p p p ln bg []
      simp only [List.append_nil, tellsF] at this
      exact this.symm
termination_by n => n
/-- The tokens of a whole text: none is empty; they lie one behind the other. -/
theorem wordF_to (l : List UInt8) (p : Nat) : p < (wordF l p).to := by
  have := tokF_size (l.drop p)
  unfold wordF; split <;> simp <;> omega
theorem wordF_le (l : List UInt8) (p : Nat) (h : p < l.length) : (wordF l p).to ≤ l.length := by
  have := tokF_le (l.drop p) (by intro h; have := congrArg List.length h; simp at this; omega)
  simp at this
  unfold wordF; split <;> simp <;> omega
theorem toksF_all (l : List UInt8) : ∀ (n p c : Nat), l.length - p ≤ n → c ≤ p → p ≤ l.length → (∀ t ∈ toksF l p c, t.fr < t.to ∧ t.to ≤ l.length) ∧ (toksF l p c).length ≤ l.length - c
  | n, p, c, hn, hc, hpl => by
    have hpe : (∀ t ∈ pend c p, t.fr < t.to ∧ t.to ≤ l.length) ∧ (pend c p).length ≤ p - c := by
      unfold pend
      split
      · refine ⟨fun t ht => ?_, by simp; omega⟩
        obtain rfl : t = ⟨0, c, p, 0, 0⟩ := by simpa using ht
        exact ⟨by simpa, hpl⟩
      · exact ⟨fun t ht => by simp at ht, by simp⟩
    by_cases hp : p < l.length
    · match n, hn with
      | 0, hn => omega
      | n + 1, hn =>
        by_cases h0 : (tokF (l.drop p)).1 = 0
        · rw [toksF_code l p c hp h0]
          exact toksF_all l n (p + 1) c (by omega) (by omega) (by omega)
        · rw [toksF_tok l p c hp h0]
          have hw := wordF_to l p
          have hl := wordF_le l p hp
          have hf : (wordF l p).fr = p := by unfold wordF; split <;> rfl
          obtain ⟨i1, i2⟩ := toksF_all l n (wordF l p).to (wordF l p).to (by omega) (Nat.le_refl _) hl
          refine ⟨fun t ht => ?_, ?_⟩
          · rcases List.mem_append.1 ht with h | h
            · exact hpe.1 t h
            · rcases List.mem_cons.1 h with h | h
              · subst h; exact ⟨by omega, hl⟩
              · exact i1 t h
          · have := hpe.2
            simp only [List.length_append, List.length_cons]
            omega
    · rw [toksF_end l p c hp]
      obtain rfl : p = l.length := by omega
      exact hpe
termination_by n => n
end Go.Proofs.YtcnpkijjnbhagaaGreatDoor
