/- What the reader of tokens computes, in plain words on lists of bytes: where a string ends; no program in sight. -/
import Derived.Lib.Index
import Derived.Lib.IndexLaws
namespace Go.Proofs.YtcnpkijjnbhagaaGreatDoor

/-- Where a string ends (behind it; its body), its bytes from place i on. -/
def qF : List UInt8 → Nat → Nat × Nat
  | [], i => (i, i)
  | [c], i => if c = 10 then (i, i) else if c = 34 then (i + 1, i) else (i + 1, i + 1)
  | c :: d :: r, i => if c = 10 then (i, i) else if c = 34 then (i + 1, i) else if c = 92 ∧ d ≠ 10 then qF r (i + 2) else qF (d :: r) (i + 1)

theorem qF_nl (r : List UInt8) (i : Nat) : qF (10 :: r) i = (i, i) := by cases r <;> simp [qF]
theorem qF_quote (r : List UInt8) (i : Nat) : qF (34 :: r) i = (i + 1, i) := by cases r <;> simp [qF]
theorem qF_esc (d : UInt8) (r : List UInt8) (i : Nat) (h : d ≠ 10) : qF (92 :: d :: r) i = qF r (i + 2) := by simp [qF, h]
theorem qF_one (c : UInt8) (r : List UInt8) (i : Nat) (h1 : c ≠ 10) (h2 : c ≠ 34) (h3 : c = 92 → r = [] ∨ ∃ t, r = 10 :: t) : qF (c :: r) i = qF r (i + 1) := by
  cases r with
  | nil => simp [qF, h1, h2]
  | cons d t =>
    by_cases hc : c = 92
    · rcases h3 hc with h | ⟨t', h⟩
      · cases h
      · cases h; simp [qF, h1, h2]
    · simp [qF, h1, h2, hc]

/-- The lines of a text: where each begins and ends; the bytes from place i on, the line that is open having begun at place b. -/
def spansF : List UInt8 → Nat → Nat → List (Nat × Nat)
  | [], i, b => [(b, i)]
  | c :: r, i, b => if c = 10 then (b, i) :: spansF r (i + 1) (i + 1) else spansF r (i + 1) b

/-- A part of a text: its line, its kind, its bytes in the line, those of its body. -/
structure Pt where
  ln : Nat
  kd : Nat
  fr : Nat
  to : Nat
  bd : Nat
  en : Nat

/-- Parts that lie one behind the other and are all of m lines, of which line j has (len j) bytes; the first begins in line i behind place p. -/
def Tiles (len : Nat → Nat) (m : Nat) : List Pt → Nat → Nat → Prop
  | [], i, p => i < m ∧ p = len i ∧ ∀ j, i < j → j < m → len j = 0
  | x :: r, i, p => i ≤ x.ln ∧ x.ln < m ∧ (i < x.ln → p = len i ∧ ∀ j, i < j → j < x.ln → len j = 0) ∧ x.fr = (if i < x.ln then 0 else p) ∧ x.fr < x.to ∧ x.to ≤ len x.ln ∧ Tiles len m r x.ln x.to

/-- The place of the first line feed of a list; its length, if there is none. -/
def nlF (l : List UInt8) : Nat := (l.takeWhile (· != 10)).length
theorem nlF_le (l : List UInt8) : nlF l ≤ l.length := (List.takeWhile_prefix _).length_le
/-- Where the line ends that holds place f, at the latest at place t. -/
def stopF (l : List UInt8) (f t : Nat) : Nat := f + nlF ((l.drop f).take (t - f))
theorem stopF_ge (l : List UInt8) (f t : Nat) : f ≤ stopF l f t := Nat.le_add_right _ _
theorem stopF_le (l : List UInt8) (f t : Nat) (h : f ≤ t) : stopF l f t ≤ t := by
  have := nlF_le ((l.drop f).take (t - f))
  have h2 : ((l.drop f).take (t - f)).length ≤ t - f := List.length_take_le _ _
  unfold stopF; omega
/-- What is told of the bytes from f to st, which lie on one line that begins at bg. -/
def evF (kd bd en f st ln bg : Nat) : List Pt :=
  if f < st then [⟨ln, kd, f - bg, st - bg, if 0 < kd then min (max bd f) st - bg else 0, if 0 < kd then min (max en f) st - bg else 0⟩] else []
/-- What is told of a piece, line by line (with fuel); the line that is open behind it, and where it begins. -/
def tellN (l : List UInt8) (kd bd en t : Nat) : Nat → Nat → Nat → Nat → List Pt × Nat × Nat
  | 0, _, ln, bg => ([], ln, bg)
  | n + 1, f, ln, bg =>
    if f < t then
      if stopF l f t < t then
        (evF kd bd en f (stopF l f t) ln bg ++ (tellN l kd bd en t n (stopF l f t + 1) (ln + 1) (stopF l f t + 1)).1, (tellN l kd bd en t n (stopF l f t + 1) (ln + 1) (stopF l f t + 1)).2)
      else (evF kd bd en f (stopF l f t) ln bg, ln, bg)
    else ([], ln, bg)
def tellF (l : List UInt8) (kd f t bd en ln bg : Nat) : List Pt × Nat × Nat := tellN l kd bd en t (t - f) f ln bg
theorem tellN_fuel (l : List UInt8) (kd bd en t : Nat) : ∀ (n f ln bg : Nat), t - f ≤ n → tellN l kd bd en t n f ln bg = tellN l kd bd en t (t - f) f ln bg
  | 0, f, ln, bg, h => by rw [show t - f = 0 from by omega]
  | n + 1, f, ln, bg, h => by
    by_cases hf : f < t
    · obtain ⟨m, hm⟩ : ∃ m, t - f = m + 1 := ⟨t - f - 1, by omega⟩
      rw [hm]
      have h1 := stopF_ge l f t
      simp only [tellN, if_pos hf]
      by_cases hs : stopF l f t < t
      · simp only [if_pos hs]
        rw [tellN_fuel l kd bd en t n _ _ _ (by omega), tellN_fuel l kd bd en t m _ _ _ (by omega)]
      · simp only [if_neg hs]
    · rw [show t - f = 0 from by omega]
      simp [tellN, hf]
theorem tellF_done (l : List UInt8) (kd f t bd en ln bg : Nat) (h : ¬ f < t) : tellF l kd f t bd en ln bg = ([], ln, bg) := by
  unfold tellF; rw [show t - f = 0 from by omega]; rfl
theorem tellF_last (l : List UInt8) (kd f t bd en ln bg : Nat) (h : f < t) (hs : ¬ stopF l f t < t) : tellF l kd f t bd en ln bg = (evF kd bd en f (stopF l f t) ln bg, ln, bg) := by
  unfold tellF
  obtain ⟨m, hm⟩ : ∃ m, t - f = m + 1 := ⟨t - f - 1, by omega⟩
  rw [hm]
  simp [tellN, h, hs]
theorem tellF_more (l : List UInt8) (kd f t bd en ln bg : Nat) (h : f < t) (hs : stopF l f t < t) :
    tellF l kd f t bd en ln bg = (evF kd bd en f (stopF l f t) ln bg ++ (tellF l kd (stopF l f t + 1) t bd en (ln + 1) (stopF l f t + 1)).1, (tellF l kd (stopF l f t + 1) t bd en (ln + 1) (stopF l f t + 1)).2) := by
  have h1 := stopF_ge l f t
  unfold tellF
  obtain ⟨m, hm⟩ : ∃ m, t - f = m + 1 := ⟨t - f - 1, by omega⟩
  rw [hm]
  simp only [tellN, if_pos h, if_pos hs]
  rw [tellN_fuel l kd bd en t m _ _ _ (by omega)]

/-- What begins a list of bytes: its kind (0: code, one byte of it), its length, where its body begins and ends. -/
def tokF (r : List UInt8) : Nat × Nat × Nat × Nat :=
  if r.head? = some 34 then (1, (qF (r.drop 1) 1).1, 1, (qF (r.drop 1) 1).2)
  else if Lib.hasPrefix r [47, 47] then (2, nlF r, 2, nlF r)
  else if Lib.hasPrefix r [47, 42] then
    if Lib.index (r.drop 2) [42, 47] < 0 then (2, r.length, 2, r.length) else (2, (Lib.index (r.drop 2) [42, 47]).toNat + 4, 2, (Lib.index (r.drop 2) [42, 47]).toNat + 2)
  else (0, 1, 0, 0)
/-- All that is told of a text from place p on (with fuel): the code that has not been told of begins at place c; the line's number, where it begins. -/
def eachN (l : List UInt8) : Nat → Nat → Nat → Nat → Nat → List Pt
  | 0, _, _, _, _ => []
  | n + 1, p, c, ln, bg =>
    if p < l.length then
      if (tokF (l.drop p)).1 = 0 then eachN l n (p + 1) c ln bg
      else
        let k := tokF (l.drop p)
        let a := tellF l 0 c p p p ln bg
        let b := tellF l k.1 p (p + k.2.1) (p + k.2.2.1) (p + k.2.2.2) a.2.1 a.2.2
        a.1 ++ b.1 ++ eachN l n (p + k.2.1) (p + k.2.1) b.2.1 b.2.2
    else (tellF l 0 c p p p ln bg).1
def eachF (l : List UInt8) (p c ln bg : Nat) : List Pt := eachN l (l.length - p + 1) p c ln bg
theorem qF_ge : ∀ (l : List UInt8) (i : Nat), i ≤ (qF l i).1
  | [], i => Nat.le_refl _
  | [c], i => by unfold qF; (repeat' split) <;> simp
  | c :: d :: r, i => by
    unfold qF
    split
    · simp
    · split
      · simp
      · split
        · have := qF_ge r (i + 2); omega
        · have := qF_ge (d :: r) (i + 1); omega
theorem qF_le : ∀ (l : List UInt8) (i : Nat), (qF l i).1 ≤ i + l.length
  | [], i => by simp [qF]
  | [c], i => by unfold qF; (repeat' split) <;> simp
  | c :: d :: r, i => by
    unfold qF
    split
    · simp
    · split
      · simp
      · split
        · have := qF_le r (i + 2); simp; omega
        · have := qF_le (d :: r) (i + 1); simp at this ⊢; omega
theorem prefix2 {r : List UInt8} {a b : UInt8} (h : Lib.hasPrefix r [a, b] = true) : ∃ t, r = a :: b :: t := by
  unfold Lib.hasPrefix at h
  obtain ⟨t, rfl⟩ := List.isPrefixOf_iff_prefix.1 h
  exact ⟨t, rfl⟩
theorem index_room (l sub : List UInt8) (h : 0 ≤ Lib.index l sub) : (Lib.index l sub).toNat + sub.length ≤ l.length := by
  induction l with
  | nil =>
    unfold Lib.index at h ⊢
    cases sub with
    | nil => simp
    | cons a t => simp at h
  | cons b l ih =>
    unfold Lib.index at h ⊢
    by_cases h1 : sub.isPrefixOf (b :: l) = true
    · rw [if_pos h1]
      have := (List.isPrefixOf_iff_prefix.1 h1).length_le
      simpa using this
    · rw [if_neg h1] at h ⊢
      by_cases h2 : (Lib.index l sub == -1) = true
      · rw [if_pos h2] at h; simp at h
      · rw [if_neg h2] at h ⊢
        have h3 := Lib.index_ge l sub
        have h4 : Lib.index l sub ≠ -1 := by simpa using h2
        have := ih (by omega)
        simp; omega
theorem tokF_size (r : List UInt8) : 1 ≤ (tokF r).2.1 := by
  unfold tokF
  split
  · exact qF_ge _ _
  · split
    · rename_i h; obtain ⟨t, rfl⟩ := prefix2 h; simp [nlF, List.takeWhile]
    · split
      · rename_i h; obtain ⟨t, rfl⟩ := prefix2 h; split <;> simp
      · simp
theorem tokF_le (r : List UInt8) (h : r ≠ []) : (tokF r).2.1 ≤ r.length := by
  unfold tokF
  split
  · have h1 := qF_le (r.drop 1) 1
    have h2 : 0 < r.length := List.length_pos_iff.2 h
    simp at h1 ⊢; omega
  · split
    · exact nlF_le r
    · split
      · rename_i h; obtain ⟨t, rfl⟩ := prefix2 h
        split
        · simp
        · rename_i h5
          have := index_room t [42, 47] (by simpa using h5)
          simp at this ⊢; omega
      · have h2 : 0 < r.length := List.length_pos_iff.2 h
        simp; omega
theorem eachN_fuel (l : List UInt8) : ∀ (n p c ln bg : Nat), l.length - p + 1 ≤ n → eachN l n p c ln bg = eachN l (l.length - p + 1) p c ln bg
  | 0, _, _, _, _, h => by omega
  | n + 1, p, c, ln, bg, h => by
    unfold eachN
    by_cases hp : p < l.length
    · simp only [if_pos hp]
      have hs := tokF_size (l.drop p)
      obtain ⟨m, hm⟩ : ∃ m, l.length - p = m + 1 := ⟨l.length - p - 1, by omega⟩
      by_cases h0 : (tokF (l.drop p)).1 = 0
      · simp only [if_pos h0]
        rw [eachN_fuel l n (p + 1) _ _ _ (by omega)]
        congr 1; omega
      · simp only [if_neg h0]
        rw [eachN_fuel l n (p + _) _ _ _ (by omega), hm, eachN_fuel l (m + 1) (p + _) _ _ _ (by omega)]
    · simp only [if_neg hp]
theorem eachF_end (l : List UInt8) (p c ln bg : Nat) (h : ¬ p < l.length) : eachF l p c ln bg = (tellF l 0 c p p p ln bg).1 := by
  unfold eachF eachN; rw [if_neg h]
theorem eachF_code (l : List UInt8) (p c ln bg : Nat) (h : p < l.length) (h0 : (tokF (l.drop p)).1 = 0) : eachF l p c ln bg = eachF l (p + 1) c ln bg := by
  unfold eachF
  rw [eachN, if_pos h, if_pos h0]
  congr 1; omega
theorem eachF_tok (l : List UInt8) (p c ln bg : Nat) (h : p < l.length) (h0 : (tokF (l.drop p)).1 ≠ 0) (kd sz bd en : Nat) (hk : tokF (l.drop p) = (kd, sz, bd, en)) :
    eachF l p c ln bg = (tellF l 0 c p p p ln bg).1 ++ (tellF l kd p (p + sz) (p + bd) (p + en) (tellF l 0 c p p p ln bg).2.1 (tellF l 0 c p p p ln bg).2.2).1 ++
      eachF l (p + sz) (p + sz) (tellF l kd p (p + sz) (p + bd) (p + en) (tellF l 0 c p p p ln bg).2.1 (tellF l 0 c p p p ln bg).2.2).2.1 (tellF l kd p (p + sz) (p + bd) (p + en) (tellF l 0 c p p p ln bg).2.1 (tellF l 0 c p p p ln bg).2.2).2.2 := by
  have hs := tokF_size (l.drop p)
  unfold eachF
  rw [eachN, if_pos h, if_neg h0, hk]
  rw [hk] at hs
  simp only at hs ⊢
  rw [eachN_fuel l (l.length - p) (p + sz) _ _ _ (by omega)]
end Go.Proofs.YtcnpkijjnbhagaaGreatDoor
