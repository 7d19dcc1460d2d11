/- The reference's parts, in plain words: one step of the loop over a token's bytes. No program in sight. -/
import Derived.Test.YtcnpkijjnbhagaaGreatDoorToks
namespace Go.Proofs.YtcnpkijjnbhagaaGreatDoor

/-- The tokens lie one behind the other. -/
def Chain (m : Nat) : List Tk → Nat → Prop
  | [], c => c ≤ m
  | t :: r, c => t.fr = c ∧ c < t.to ∧ t.to ≤ m ∧ Chain m r t.to
theorem chain_le {m : Nat} : ∀ {L : List Tk} {c : Nat}, Chain m L c → c ≤ m
  | [], _, h => h
  | _ :: _, _, h => by have h1 := h.2.1; have h2 := h.2.2.1; omega
theorem toksF_chain (l : List UInt8) : ∀ (n p c : Nat), l.length - p ≤ n → c ≤ p → p ≤ l.length → Chain l.length (toksF l p c) c
  | n, p, c, hn, hc, hpl => by
    by_cases hp : p < l.length
    · match n, hn with
      | 0, hn => omega
      | n + 1, hn =>
        by_cases h0 : (tokF (l.drop p)).1 = 0
        · rw [toksF_code l p c hp h0]
          exact toksF_chain l n (p + 1) c (by omega) (by omega) (by omega)
        · rw [toksF_tok l p c hp h0]
          have hw := wordF_to l p
          have hl := wordF_le l p hp
          have hf : (wordF l p).fr = p := by unfold wordF; split <;> rfl
          have ih := toksF_chain l n (wordF l p).to (wordF l p).to (by omega) (Nat.le_refl _) hl
          unfold pend
          by_cases hcp : c < p
          · rw [if_pos hcp]
            exact ⟨rfl, hcp, by simpa using hpl, hf, hw, hl, ih⟩
          · rw [if_neg hcp]
            obtain rfl : c = p := by omega
            exact ⟨hf, hw, hl, ih⟩
    · rw [toksF_end l p c hp]
      unfold pend
      by_cases hcp : c < p
      · rw [if_pos hcp]
        exact ⟨rfl, hcp, hpl, hpl⟩
      · rw [if_neg hcp]
        exact Nat.le_trans hc hpl
termination_by n => n
/-- No line feed from f up to q. -/
def NoNl (l : List UInt8) (f q : Nat) : Prop := ∀ j (hj : j < l.length), f ≤ j → j < q → l[j] ≠ 10
theorem noNl_step {l : List UInt8} {f q : Nat} (h : NoNl l f q) (hq : q < l.length) (hc : l[q] ≠ 10) : NoNl l f (q + 1) := fun j hj a b => by
  by_cases e : j = q
  · subst e; exact hc
  · exact h j hj a (by omega)
theorem noNl_refl (l : List UInt8) (f : Nat) : NoNl l f f := fun j _ a b => by omega
theorem nlF_spec' : ∀ (r : List UInt8), (∀ j (hj : j < r.length), j < nlF r → r[j] ≠ 10) ∧ (∀ h : nlF r < r.length, r[nlF r] = 10)
  | [] => ⟨fun j hj => by simp at hj, fun h => by simp at h⟩
  | c :: r => by
    obtain ⟨h1, h2⟩ := nlF_spec' r
    by_cases hc : c = 10
    · subst hc
      refine ⟨fun j _ h => by simp [nlF, List.takeWhile] at h, fun _ => by simp [nlF, List.takeWhile]⟩
    · have hcb : (c != 10) = true := by simpa using hc
      have hn : nlF (c :: r) = nlF r + 1 := by simp [nlF, List.takeWhile, hcb]
      refine ⟨fun j hj h => ?_, fun h => ?_⟩
      · rcases j with _ | j
        · simpa using hc
        · simp only [List.getElem_cons_succ]
          exact h1 j (by simpa using hj) (by omega)
      · have h' : nlF r < r.length := by rw [hn] at h; simpa using h
        have := h2 h'
        simp only [hn, List.getElem_cons_succ]
        exact this
theorem stop_at {l : List UInt8} {f q t : Nat} (h : NoNl l f q) (hf : f ≤ q) (hq : q ≤ t) (ht : t ≤ l.length) (hc : q = t ∨ ∃ hj : q < l.length, l[q] = 10) : stopF l f t = q := by
  obtain ⟨h1, h2⟩ := nlF_spec' ((l.drop f).take (t - f))
  have hlen : ((l.drop f).take (t - f)).length = t - f := by simp; omega
  have hle := nlF_le ((l.drop f).take (t - f))
  unfold stopF
  generalize hk : nlF ((l.drop f).take (t - f)) = k at *
  by_cases h3 : k < q - f
  · exfalso
    have := h2 (by omega)
    simp only [List.getElem_take, List.getElem_drop] at this
    exact h (f + k) (by omega) (by omega) (by omega) this
  · by_cases h4 : q - f < k
    · exfalso
      rcases hc with e | ⟨hj, e⟩
      · omega
      · have := h1 (q - f) (by omega) h4
        simp only [List.getElem_take, List.getElem_drop] at this
        apply this
        simp only [show f + (q - f) = q from by omega]
        exact e
    · omega
/-- A line feed within a token. -/
theorem tell_nl {l : List UInt8} {kd f t bd en ln bg q : Nat} (h : NoNl l f q) (hf : f ≤ q) (hq : q < t) (ht : t ≤ l.length) (hc : ∃ hj : q < l.length, l[q] = 10) :
    tellF l kd f t bd en ln bg = (evF kd bd en f q ln bg ++ (tellF l kd (q + 1) t bd en (ln + 1) (q + 1)).1, (tellF l kd (q + 1) t bd en (ln + 1) (q + 1)).2) := by
  have hs := stop_at h hf (Nat.le_of_lt hq) ht (.inr hc)
  rw [tellF_more l kd f t bd en ln bg (by omega) (by omega), hs]
/-- A token's end. -/
theorem tell_end {l : List UInt8} {kd f t bd en ln bg : Nat} (h : NoNl l f t) (hf : f ≤ t) (ht : t ≤ l.length) : tellF l kd f t bd en ln bg = (evF kd bd en f t ln bg, ln, bg) := by
  have hs := stop_at h hf (Nat.le_refl _) ht (.inl rfl)
  by_cases hft : f < t
  · rw [tellF_last l kd f t bd en ln bg hft (by omega), hs]
  · rw [tellF_done l kd f t bd en ln bg hft]
    unfold evF
    rw [if_neg hft]
theorem evF_none {kd bd en f q ln bg : Nat} (h : ¬ f < q) : evF kd bd en f q ln bg = [] := by unfold evF; rw [if_neg h]
theorem evF_some {kd bd en f q ln bg : Nat} (h : f < q) : evF kd bd en f q ln bg = [⟨ln, kd, f - bg, q - bg, if 0 < kd then min (max bd f) q - bg else 0, if 0 < kd then min (max en f) q - bg else 0⟩] := by unfold evF; rw [if_pos h]
end Go.Proofs.YtcnpkijjnbhagaaGreatDoor
