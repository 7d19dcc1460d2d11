/- The plain law of Joined: what the reader of tokens tells tiles the lines. No program in sight. -/
import Derived.Test.YtcnpkijjnbhagaaGp
import Derived.Test.YtcnpkijjnbhagaaJoinf
namespace Go.Proofs.Ytcnpkijjnbhagaa

/-- Place c of l lies in line ln, which begins at bg. -/
def At (l : List UInt8) (ln bg c : Nat) : Prop := bg ≤ c ∧ c ≤ l.length ∧ ∃ pre, spansF l 0 0 = pre ++ spansF (l.drop c) c bg ∧ pre.length = ln
/-- The tiling has come to place c of line ln. -/
def Ev (len : Nat → Nat) (i p ln bg c : Nat) : Prop := (i = ln ∧ p = c - bg) ∨ (i < ln ∧ p = len i ∧ (∀ j, i < j → j < ln → len j = 0) ∧ c = bg)

theorem at_start (l : List UInt8) : At l 0 0 0 := ⟨Nat.le_refl _, Nat.zero_le _, [], by simp, rfl⟩
theorem at_step {l : List UInt8} {ln bg c : Nat} (h : At l ln bg c) (hc : c < l.length) (hb : l[c] ≠ 10) : At l ln bg (c + 1) := by
  obtain ⟨h1, h2, pre, h3, h4⟩ := h
  refine ⟨by omega, by omega, pre, ?_, h4⟩
  rw [List.drop_eq_getElem_cons hc] at h3
  rw [h3, spansF, if_neg hb]
theorem at_nl {l : List UInt8} {ln bg c : Nat} (h : At l ln bg c) (hc : c < l.length) (hb : l[c] = 10) : At l (ln + 1) (c + 1) (c + 1) ∧ (spansF l 0 0)[ln]? = some (bg, c) := by
  obtain ⟨h1, h2, pre, h3, h4⟩ := h
  rw [List.drop_eq_getElem_cons hc, spansF, if_pos hb] at h3
  refine ⟨⟨by omega, by omega, pre ++ [(bg, c)], ?_, by simp [h4]⟩, ?_⟩
  · rw [h3]; simp
  · rw [h3, ← h4]; simp
theorem spansF_head : ∀ (r : List UInt8) (i b : Nat), ∃ e t, spansF r i b = (b, e) :: t ∧ i ≤ e ∧ e ≤ i + r.length
  | [], i, b => ⟨i, [], by simp [spansF], by omega, by simp⟩
  | c :: r, i, b => by
    unfold spansF
    split
    · exact ⟨i, _, rfl, by omega, by simp⟩
    · obtain ⟨e, t, h1, h2, h3⟩ := spansF_head r (i + 1) b
      exact ⟨e, t, h1, by omega, by simp; omega⟩
theorem at_line {l : List UInt8} {ln bg c : Nat} (h : At l ln bg c) : ln < (spansF l 0 0).length ∧ ∃ e, (spansF l 0 0)[ln]? = some (bg, e) ∧ c ≤ e ∧ e ≤ l.length := by
  obtain ⟨h1, h2, pre, h3, h4⟩ := h
  obtain ⟨e, t, he, h5, h6⟩ := spansF_head (l.drop c) c bg
  rw [he] at h3
  rw [h3, ← h4]
  refine ⟨by simp, e, by simp, h5, by simp at h6; omega⟩
theorem at_run {l : List UInt8} {ln bg : Nat} : ∀ (n c : Nat), At l ln bg c → c + n ≤ l.length → (∀ j (hj : j < l.length), c ≤ j → j < c + n → l[j] ≠ 10) → At l ln bg (c + n)
  | 0, _, h, _, _ => h
  | n + 1, c, h, hl, hn => by
    have h1 := at_step h (by omega) (hn c (by omega) (Nat.le_refl _) (by omega))
    have := at_run n (c + 1) h1 (by omega) (fun j hj a b => hn j hj (by omega) (by omega))
    rwa [show c + (n + 1) = c + 1 + n from by omega]

/-- The lines' lengths, in the list's own words. -/
def LenIs (l : List UInt8) (len : Nat → Nat) : Prop := ∀ j a b, (spansF l 0 0)[j]? = some (a, b) → b ≤ l.length → len j = b - a

theorem nlF_spec : ∀ (r : List UInt8), (∀ j (hj : j < r.length), j < nlF r → r[j] ≠ 10) ∧ (∀ h : nlF r < r.length, r[nlF r] = 10)
  | [] => ⟨fun j hj => by simp at hj, fun h => by simp at h⟩
  | c :: r => by
    obtain ⟨h1, h2⟩ := nlF_spec r
    by_cases hc : c = 10
    · subst hc
      refine ⟨fun j _ h => by simp [nlF, List.takeWhile] at h, fun _ => by simp [nlF, List.takeWhile]⟩
    · have hcb : (c != 10) = true := by simpa using hc
      have hn : nlF (c :: r) = nlF r + 1 := by simp [nlF, List.takeWhile, hcb]
      refine ⟨fun j hj h => ?_, fun h => ?_⟩
      · rcases j with _ | j
        · simpa using hc
        · simp only [List.getElem_cons_succ]
          exact h1 j (by simpa using hj) (by omega)
      · have h' : nlF r < r.length := by rw [hn] at h; simpa using h
        have := h2 h'
        simp only [hn, List.getElem_cons_succ]
        exact this
theorem stopF_spec (l : List UInt8) (f t : Nat) (ht : t ≤ l.length) (hft : f ≤ t) :
    (∀ j (hj : j < l.length), f ≤ j → j < stopF l f t → l[j] ≠ 10) ∧ (∀ h : stopF l f t < l.length, stopF l f t < t → l[stopF l f t] = 10) := by
  obtain ⟨h1, h2⟩ := nlF_spec ((l.drop f).take (t - f))
  have hlen : ((l.drop f).take (t - f)).length = t - f := by simp; omega
  have hle := stopF_le l f t hft
  unfold stopF at *
  refine ⟨fun j hj a b => ?_, fun h a => ?_⟩
  · have := h1 (j - f) (by omega) (by omega)
    simp only [List.getElem_take, List.getElem_drop] at this
    simpa [show f + (j - f) = j from by omega] using this
  · have := h2 (by omega)
    simp only [List.getElem_take, List.getElem_drop] at this
    exact this

/-- One event. -/
theorem ev_one {l : List UInt8} {len : Nat → Nat} (hlen : LenIs l len) {m kd bd en f st ln bg i p : Nat} (hm : m = (spansF l 0 0).length) (hA : At l ln bg st) (hbf : bg ≤ f) (hfs : f ≤ st) (hE : Ev len i p ln bg f) :
    ∃ i' p', Ev len i' p' ln bg st ∧ ∀ r, Tiles len m r i' p' → Tiles len m (evF kd bd en f st ln bg ++ r) i p := by
  by_cases hf : f < st
  · obtain ⟨h1, e, h2, h3, h4⟩ := at_line hA
    have h5 := hlen ln bg e h2 h4
    refine ⟨ln, st - bg, .inl ⟨rfl, rfl⟩, fun r hr => ?_⟩
    unfold evF
    rw [if_pos hf]
    refine ⟨?_, by rw [hm]; exact h1, fun h => ?_, ?_, ?_, ?_, hr⟩
    · rcases hE with ⟨rfl, _⟩ | ⟨h, _⟩
      · exact Nat.le_refl _
      · exact Nat.le_of_lt h
    · rcases hE with ⟨rfl, _⟩ | ⟨_, ha, hb, _⟩
      · simp at h
      · exact ⟨ha, hb⟩
    · rcases hE with ⟨rfl, hp⟩ | ⟨ha, _, _, hc⟩
      · simp [hp]
      · simp [ha, hc]
    · show f - bg < st - bg
      omega
    · show st - bg ≤ len ln
      omega
  · obtain rfl : f = st := by omega
    refine ⟨i, p, hE, fun r hr => ?_⟩
    unfold evF
    rw [if_neg hf]
    exact hr
/-- A line feed. -/
theorem ev_nl {l : List UInt8} {len : Nat → Nat} (hlen : LenIs l len) {st ln bg i p : Nat} (hA : At l ln bg st) (hst : st < l.length) (hb : l[st] = 10) (hE : Ev len i p ln bg st) : Ev len i p (ln + 1) (st + 1) (st + 1) := by
  have h5 := hlen ln bg st (at_nl hA hst hb).2 (by omega)
  rcases hE with ⟨rfl, hp⟩ | ⟨ha, hp, hz, hc⟩
  · exact .inr ⟨by omega, by omega, fun j h1 h2 => by omega, rfl⟩
  · refine .inr ⟨by omega, hp, fun j h1 h2 => ?_, rfl⟩
    by_cases hj : j = ln
    · subst hj; omega
    · exact hz j h1 (by omega)
/-- A piece. -/
theorem ev_tell {l : List UInt8} {len : Nat → Nat} (hlen : LenIs l len) {m kd t bd en : Nat} (hm : m = (spansF l 0 0).length) (ht : t ≤ l.length) : ∀ (n f ln bg i p : Nat), t - f ≤ n → f ≤ t → At l ln bg f → Ev len i p ln bg f →
    ∃ i' p', At l (tellF l kd f t bd en ln bg).2.1 (tellF l kd f t bd en ln bg).2.2 t ∧ Ev len i' p' (tellF l kd f t bd en ln bg).2.1 (tellF l kd f t bd en ln bg).2.2 t ∧
      ∀ r, Tiles len m r i' p' → Tiles len m ((tellF l kd f t bd en ln bg).1 ++ r) i p
  | n, f, ln, bg, i, p, hn, hft, hA, hE => by
    by_cases hf : f < t
    · have hs := stopF_spec l f t ht hft
      have h1 := stopF_ge l f t
      have h2 := stopF_le l f t hft
      have hA2 : At l ln bg (stopF l f t) := by
        have := at_run (stopF l f t - f) f hA (by omega) (fun j hj a b => hs.1 j hj a (by omega))
        rwa [show f + (stopF l f t - f) = stopF l f t from by omega] at this
      obtain ⟨i1, p1, hE1, hT1⟩ := ev_one (kd := kd) (bd := bd) (en := en) hlen hm hA2 hA.1 h1 hE
      by_cases hst : stopF l f t < t
      · rw [tellF_more l kd f t bd en ln bg hf hst]
        have hb := hs.2 (by omega) hst
        have hA3 := (at_nl hA2 (by omega) hb).1
        have hE2 := ev_nl hlen hA2 (by omega) hb hE1
        match n, hn with
        | n + 1, hn =>
          obtain ⟨i2, p2, hA4, hE4, hT4⟩ := ev_tell (kd := kd) (bd := bd) (en := en) hlen hm ht n (stopF l f t + 1) (ln + 1) (stopF l f t + 1) i1 p1 (by omega) (by omega) hA3 hE2
          refine ⟨i2, p2, hA4, hE4, fun r hr => ?_⟩
          rw [List.append_assoc]
          exact hT1 _ (hT4 r hr)
        | 0, hn => omega
      · rw [tellF_last l kd f t bd en ln bg hf hst]
        have : stopF l f t = t := by omega
        rw [this] at hA2 hE1 hT1 ⊢
        exact ⟨i1, p1, hA2, hE1, hT1⟩
    · obtain rfl : f = t := by omega
      rw [tellF_done l kd f f bd en ln bg hf]
      exact ⟨i, p, hA, hE, fun r hr => hr⟩
termination_by n => n
/-- The whole text. -/
theorem ev_each {l : List UInt8} {len : Nat → Nat} (hlen : LenIs l len) {m : Nat} (hm : m = (spansF l 0 0).length) : ∀ (n p c ln bg i q : Nat), l.length - p ≤ n → c ≤ p → p ≤ l.length → At l ln bg c → Ev len i q ln bg c → Tiles len m (eachF l p c ln bg) i q
  | n, p, c, ln, bg, i, q, hn, hcp, hpl, hA, hE => by
    by_cases hp : p < l.length
    · match n, hn with
      | 0, hn => omega
      | n + 1, hn =>
        by_cases h0 : (tokF (l.drop p)).1 = 0
        · rw [eachF_code l p c ln bg hp h0]
          exact ev_each hlen hm n (p + 1) c ln bg i q (by omega) (by omega) (by omega) hA hE
        · obtain ⟨kd, sz, bd, en, hk⟩ : ∃ kd sz bd en, tokF (l.drop p) = (kd, sz, bd, en) := ⟨_, _, _, _, rfl⟩
          have hs := tokF_size (l.drop p)
          have hl := tokF_le (l.drop p) (by intro h; have := congrArg List.length h; simp at this; omega)
          rw [hk] at hs hl
          simp at hs hl
          rw [eachF_tok l p c ln bg hp h0 kd sz bd en hk]
          obtain ⟨i1, q1, hA1, hE1, hT1⟩ := ev_tell (kd := 0) (bd := p) (en := p) hlen hm hpl _ c ln bg i q (Nat.le_refl _) hcp hA hE
          obtain ⟨i2, q2, hA2, hE2, hT2⟩ := ev_tell (kd := kd) (bd := p + bd) (en := p + en) hlen hm (t := p + sz) (by omega) _ p _ _ i1 q1 (Nat.le_refl _) (by omega) hA1 hE1
          rw [List.append_assoc]
          exact hT1 _ (hT2 _ (ev_each hlen hm n (p + sz) (p + sz) _ _ i2 q2 (by omega) (Nat.le_refl _) (by omega) hA2 hE2))
    · rw [eachF_end l p c ln bg hp]
      obtain rfl : p = l.length := by omega
      obtain ⟨i1, q1, hA1, hE1, hT1⟩ := ev_tell (kd := 0) (bd := l.length) (en := l.length) hlen hm (Nat.le_refl _) _ c ln bg i q (Nat.le_refl _) hcp hA hE
      have := hT1 [] ?_
      · simpa using this
      · obtain ⟨hb, _, pre, h3, h4⟩ := hA1
        rw [List.drop_length, spansF] at h3
        have hm' : m = (tellF l 0 c l.length l.length l.length ln bg).2.1 + 1 := by rw [hm, h3, ← h4]; simp
        have h5 := hlen (tellF l 0 c l.length l.length l.length ln bg).2.1 (tellF l 0 c l.length l.length l.length ln bg).2.2 l.length (by rw [h3]; simp [← h4]) (Nat.le_refl _)
        rcases hE1 with ⟨rfl, hq⟩ | ⟨ha, hq, hz, hc⟩
        · exact ⟨by omega, by omega, fun j h6 h7 => by omega⟩
        · refine ⟨by omega, hq, fun j h6 h7 => ?_⟩
          by_cases hj : j = (tellF l 0 c l.length l.length l.length ln bg).2.1
          · rw [hj]; omega
          · exact hz j h6 (by omega)
termination_by n => n

theorem evF_len (kd bd en f st ln bg : Nat) : (evF kd bd en f st ln bg).length ≤ st - f := by
  unfold evF; split
  · simp; omega
  · simp
theorem tellF_len (l : List UInt8) (kd t bd en : Nat) : ∀ (n f ln bg : Nat), t - f ≤ n → f ≤ t → (tellF l kd f t bd en ln bg).1.length ≤ t - f
  | n, f, ln, bg, hn, hft => by
    by_cases hf : f < t
    · have h1 := stopF_ge l f t
      have h2 := stopF_le l f t hft
      have h3 := evF_len kd bd en f (stopF l f t) ln bg
      by_cases hst : stopF l f t < t
      · rw [tellF_more l kd f t bd en ln bg hf hst]
        match n, hn with
        | n + 1, hn =>
          have := tellF_len l kd t bd en n (stopF l f t + 1) (ln + 1) (stopF l f t + 1) (by omega) (by omega)
          simp only [List.length_append]
          omega
        | 0, hn => omega
      · rw [tellF_last l kd f t bd en ln bg hf hst]
        simp only
        omega
    · rw [tellF_done l kd f t bd en ln bg hf]
      simp
termination_by n => n
theorem eachF_len (l : List UInt8) : ∀ (n p c ln bg : Nat), l.length - p ≤ n → c ≤ p → p ≤ l.length → (eachF l p c ln bg).length ≤ l.length - c
  | n, p, c, ln, bg, hn, hcp, hpl => by
    have h1 := tellF_len l 0 p p p _ c ln bg (Nat.le_refl _) hcp
    by_cases hp : p < l.length
    · match n, hn with
      | 0, hn => omega
      | n + 1, hn =>
        by_cases h0 : (tokF (l.drop p)).1 = 0
        · rw [eachF_code l p c ln bg hp h0]
          exact eachF_len l n (p + 1) c ln bg (by omega) (by omega) (by omega)
        · obtain ⟨kd, sz, bd, en, hk⟩ : ∃ kd sz bd en, tokF (l.drop p) = (kd, sz, bd, en) := ⟨_, _, _, _, rfl⟩
          have hs := tokF_size (l.drop p)
          have hl := tokF_le (l.drop p) (by intro h; have := congrArg List.length h; simp at this; omega)
          rw [hk] at hs hl
          simp at hs hl
          rw [eachF_tok l p c ln bg hp h0 kd sz bd en hk]
          have h2 := tellF_len l kd (p + sz) (p + bd) (p + en) _ p (tellF l 0 c p p p ln bg).2.1 (tellF l 0 c p p p ln bg).2.2 (Nat.le_refl _) (by omega)
          have h3 := eachF_len l n (p + sz) (p + sz) (tellF l kd p (p + sz) (p + bd) (p + en) (tellF l 0 c p p p ln bg).2.1 (tellF l 0 c p p p ln bg).2.2).2.1 (tellF l kd p (p + sz) (p + bd) (p + en) (tellF l 0 c p p p ln bg).2.1 (tellF l 0 c p p p ln bg).2.2).2.2 (by omega) (Nat.le_refl _) (by omega)
          simp only [List.length_append]
          omega
    · rw [eachF_end l p c ln bg hp]
      omega
termination_by n => n
theorem lenOf_is (s : ByteArray) : LenIs s.data.toList (lenOf s) := by
  intro j a b h hb
  unfold lenOf spans
  rw [List.getD_eq_getElem?_getD, h]
  simp only [Option.getD_some, ByteArray.size_extract]
  have : s.data.toList.length = s.size := by simp
  omega
/-- The parts of a text that is not too long tile its lines. -/
theorem parts_len (s : ByteArray) : (partsOf s).length ≤ 600 := by
  unfold partsOf
  split
  · have := eachF_len s.data.toList _ 0 0 0 0 (Nat.le_refl _) (Nat.le_refl _) (Nat.zero_le _)
    have h : s.data.toList.length = s.size := by simp
    omega
  · simp
/-- The parts of a text that is not too long tile its lines (2). -/
theorem parts_tile (s : ByteArray) (h : s.size ≤ 600) : Tiles (lenOf s) (spans s).length (partsOf s) 0 0 := by
  unfold partsOf
  rw [if_pos h]
  exact ev_each (lenOf_is s) rfl _ 0 0 0 0 0 0 (Nat.le_refl _) (Nat.le_refl _) (Nat.zero_le _) (at_start _) (.inl ⟨rfl, rfl⟩)
end Go.Proofs.Ytcnpkijjnbhagaa
