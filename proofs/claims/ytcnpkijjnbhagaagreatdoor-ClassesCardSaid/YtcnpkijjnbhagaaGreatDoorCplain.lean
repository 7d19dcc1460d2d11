/- The reference's way to read a rune, in plain words: it is the model's own decoder's. No program in sight. -/
import Derived.Test.YtcnpkijjnbhagaaGreatDoorProg
import Derived.Lib.TrimUEq
import Derived.Lib.ValidLaws
import Derived.Lib.MapLaws
namespace Go.Proofs.YtcnpkijjnbhagaaGreatDoor
open Go.Lib

/-- Byte j of a text (0 behind it). -/
def byF (l : List UInt8) (j : Nat) : Nat := (l.getD j 0).toNat
theorem byF_lt (l : List UInt8) (j : Nat) : byF l j < 256 := (l.getD j 0).toNat_lt
/-- The number of the first k bytes: the lead byte under a mask, then six bits a byte. -/
def valF (l : List UInt8) (m : Nat) : Nat → Nat
  | 0 => 0
  | k + 1 => if k = 0 then byF l 0 % m else 64 * valF l m k + byF l k - 128
def contF (l : List UInt8) (n : Nat) : Prop := ∀ j, j < n → 1 ≤ j → 128 ≤ byF l j ∧ byF l j ≤ 191
instance (l : List UInt8) (n : Nat) : Decidable (contF l n) := by unfold contF; infer_instance
def szG (l : List UInt8) (n m least : Nat) : Nat :=
  if l.length < n then 0 else if contF l n then (if valF l m n < least ∨ 1114111 < valF l m n ∨ (55296 ≤ valF l m n ∧ valF l m n ≤ 57343) then 0 else n) else 0
/-- How many bytes the rune that begins a text has; 0: none does. -/
def szF (l : List UInt8) : Nat :=
  if byF l 0 < 128 then 1 else if 194 ≤ byF l 0 ∧ byF l 0 < 224 then szG l 2 32 128 else if 224 ≤ byF l 0 ∧ byF l 0 < 240 then szG l 3 16 2048 else if 240 ≤ byF l 0 ∧ byF l 0 < 245 then szG l 4 8 65536 else 0
/-- The rune. -/
def rnF (l : List UInt8) : Nat := if szF l = 1 then byF l 0 else valF l (2 ^ (7 - szF l)) (szF l)
theorem cont2 (l : List UInt8) : contF l 2 ↔ (128 ≤ byF l 1 ∧ byF l 1 ≤ 191) :=
  ⟨fun h => h 1 (by omega) (by omega), fun h j h1 h2 => by
    obtain rfl : j = 1 := by omega
    exact h⟩
theorem cont3 (l : List UInt8) : contF l 3 ↔ (128 ≤ byF l 1 ∧ byF l 1 ≤ 191) ∧ (128 ≤ byF l 2 ∧ byF l 2 ≤ 191) :=
  ⟨fun h => ⟨h 1 (by omega) (by omega), h 2 (by omega) (by omega)⟩, fun h j h1 h2 => by
    rcases (by omega : j = 1 ∨ j = 2) with rfl | rfl
    · exact h.1
    · exact h.2⟩
theorem cont4 (l : List UInt8) : contF l 4 ↔ (128 ≤ byF l 1 ∧ byF l 1 ≤ 191) ∧ (128 ≤ byF l 2 ∧ byF l 2 ≤ 191) ∧ (128 ≤ byF l 3 ∧ byF l 3 ≤ 191) :=
  ⟨fun h => ⟨h 1 (by omega) (by omega), h 2 (by omega) (by omega), h 3 (by omega) (by omega)⟩, fun h j h1 h2 => by
    rcases (by omega : j = 1 ∨ j = 2 ∨ j = 3) with rfl | rfl | rfl
    · exact h.1
    · exact h.2.1
    · exact h.2.2⟩
theorem val2 (l : List UInt8) (m : Nat) : valF l m 2 = 64 * (byF l 0 % m) + byF l 1 - 128 := rfl
theorem val3 (l : List UInt8) (m : Nat) : valF l m 3 = 64 * (64 * (byF l 0 % m) + byF l 1 - 128) + byF l 2 - 128 := rfl
theorem val4 (l : List UInt8) (m : Nat) : valF l m 4 = 64 * (64 * (64 * (byF l 0 % m) + byF l 1 - 128) + byF l 2 - 128) + byF l 3 - 128 := rfl
set_option maxHeartbeats 4000000 in
/-- THE LAW: it is the decoder's width and rune; 0 where the decoder knows none. -/
theorem sz_dec (l : List UInt8) (hne : l ≠ []) : (szF l = 0 ∧ (decodeL l).1 = 65533 ∧ (decodeL l).2 = 1) ∨ (1 ≤ szF l ∧ szF l ≤ 4 ∧ (decodeL l).2 = szF l ∧ (decodeL l).1 = rnF l ∧ ¬ ((decodeL l).1 = 65533 ∧ (decodeL l).2 = 1)) := by
  have hl : 1 ≤ l.length := by
    cases l with
    | nil => exact absurd rfl hne
    | cons a r => simp
  have h0 := byF_lt l 0
  have h1 := byF_lt l 1
  have h2 := byF_lt l 2
  have h3 := byF_lt l 3
  have hd : decodeL l = decodeN l.length (byF l 0) (byF l 1) (byF l 2) (byF l 3) := decodeL_N l
  unfold rnF
  rw [hd]
  unfold szF szG
  simp only [cont2, cont3, cont4]
  generalize hb0 : byF l 0 = b0 at *
  generalize hb1 : byF l 1 = b1 at *
  generalize hb2 : byF l 2 = b2 at *
  generalize hb3 : byF l 3 = b3 at *
  generalize hn : l.length = n at *
  have v2 : valF l 32 2 = 64 * (b0 % 32) + b1 - 128 := by rw [val2, hb0, hb1]
  have v3 : valF l 16 3 = 64 * (64 * (b0 % 16) + b1 - 128) + b2 - 128 := by rw [val3, hb0, hb1, hb2]
  have v4 : valF l 8 4 = 64 * (64 * (64 * (b0 % 8) + b1 - 128) + b2 - 128) + b3 - 128 := by rw [val4, hb0, hb1, hb2, hb3]
  rw [v2, v3, v4]
  by_cases c1 : b0 < 128
  · right
    have e : decodeN n b0 b1 b2 b3 = (b0, 1) := by unfold decodeN; rw [if_pos c1]
    rw [e]
    simp only [if_pos c1]
    exact ⟨by omega, by omega, by simp, by simp, by simp; omega⟩
  · simp only [if_neg c1]
    by_cases c2 : 194 ≤ b0 ∧ b0 < 224
    · simp only [if_pos c2]
      by_cases d : 1 < n ∧ 128 ≤ b1 ∧ b1 ≤ 191
      · have e : decodeN n b0 b1 b2 b3 = (b0 % 32 * 64 + b1 % 64, 2) := by
          unfold decodeN
          rw [if_neg c1, if_pos (by omega), if_pos (by omega)]
        rw [e, if_neg (by omega), if_pos d.2, if_neg (by omega)]
        right
        simp only [show ¬ (2 = 1) from by decide, if_false, show 2 ^ (7 - 2) = 32 from rfl, v2]
        exact ⟨by omega, by omega, by simp, by omega, by simp⟩
      · have e : decodeN n b0 b1 b2 b3 = (65533, 1) := by
          unfold decodeN
          rw [if_neg c1, if_neg (by omega), if_neg (by omega), if_neg (by omega)]
        left
        rw [e]
        refine ⟨?_, rfl, rfl⟩
        split
        · rfl
        · rw [if_neg (by omega)]
    · simp only [if_neg c2]
      by_cases c3 : 224 ≤ b0 ∧ b0 < 240
      · simp only [if_pos c3]
        by_cases d : 2 < n ∧ (128 ≤ b1 ∧ b1 ≤ 191) ∧ (128 ≤ b2 ∧ b2 ≤ 191)
        · rw [if_neg (by omega), if_pos d.2]
          have ev : 64 * (64 * (b0 % 16) + b1 - 128) + b2 - 128 = b0 % 16 * 4096 + b1 % 64 * 64 + b2 % 64 := by omega
          rw [ev]
          by_cases g : b0 % 16 * 4096 + b1 % 64 * 64 + b2 % 64 ≥ 2048 ∧ (b0 % 16 * 4096 + b1 % 64 * 64 + b2 % 64 < 55296 ∨ (57344 ≤ b0 % 16 * 4096 + b1 % 64 * 64 + b2 % 64 ∧ b0 % 16 * 4096 + b1 % 64 * 64 + b2 % 64 ≤ 1114111))
          · have e : decodeN n b0 b1 b2 b3 = (b0 % 16 * 4096 + b1 % 64 * 64 + b2 % 64, 3) := by
              unfold decodeN
              rw [if_neg c1, if_neg (by omega), if_pos (by omega), if_pos g]
            rw [e, if_neg (by omega)]
            right
            simp only [show ¬ (3 = 1) from by decide, if_false, show 2 ^ (7 - 3) = 16 from rfl, v3, ev]
            exact ⟨by omega, by omega, by simp, by simp only, by simp⟩
          · have e : decodeN n b0 b1 b2 b3 = (65533, 1) := by
              unfold decodeN
              rw [if_neg c1, if_neg (by omega), if_pos (by omega), if_neg g]
            rw [e, if_pos (by omega)]
            left
            exact ⟨rfl, rfl, rfl⟩
        · have e : decodeN n b0 b1 b2 b3 = (65533, 1) := by
            unfold decodeN
            rw [if_neg c1, if_neg (by omega), if_neg (by omega), if_neg (by omega)]
          left
          rw [e]
          refine ⟨?_, rfl, rfl⟩
          split
          · rfl
          · rw [if_neg (by omega)]
      · simp only [if_neg c3]
        by_cases c4 : 240 ≤ b0 ∧ b0 < 245
        · simp only [if_pos c4]
          by_cases d : 3 < n ∧ (128 ≤ b1 ∧ b1 ≤ 191) ∧ (128 ≤ b2 ∧ b2 ≤ 191) ∧ (128 ≤ b3 ∧ b3 ≤ 191)
          · rw [if_neg (by omega), if_pos d.2]
            have ev : 64 * (64 * (64 * (b0 % 8) + b1 - 128) + b2 - 128) + b3 - 128 = b0 % 8 * 262144 + b1 % 64 * 4096 + b2 % 64 * 64 + b3 % 64 := by omega
            rw [ev]
            by_cases g : b0 % 8 * 262144 + b1 % 64 * 4096 + b2 % 64 * 64 + b3 % 64 ≥ 65536 ∧ (b0 % 8 * 262144 + b1 % 64 * 4096 + b2 % 64 * 64 + b3 % 64 < 55296 ∨ (57344 ≤ b0 % 8 * 262144 + b1 % 64 * 4096 + b2 % 64 * 64 + b3 % 64 ∧ b0 % 8 * 262144 + b1 % 64 * 4096 + b2 % 64 * 64 + b3 % 64 ≤ 1114111))
            · have e : decodeN n b0 b1 b2 b3 = (b0 % 8 * 262144 + b1 % 64 * 4096 + b2 % 64 * 64 + b3 % 64, 4) := by
                unfold decodeN
                rw [if_neg c1, if_neg (by omega), if_neg (by omega), if_pos (by omega), if_pos g]
              rw [e, if_neg (by omega)]
              right
              simp only [show ¬ (4 = 1) from by decide, if_false, show 2 ^ (7 - 4) = 8 from rfl, v4, ev]
              exact ⟨by omega, by omega, by simp, by simp only, by simp⟩
            · have e : decodeN n b0 b1 b2 b3 = (65533, 1) := by
                unfold decodeN
                rw [if_neg c1, if_neg (by omega), if_neg (by omega), if_pos (by omega), if_neg g]
              rw [e, if_pos (by omega)]
              left
              exact ⟨rfl, rfl, rfl⟩
          · have e : decodeN n b0 b1 b2 b3 = (65533, 1) := by
              unfold decodeN
              rw [if_neg c1, if_neg (by omega), if_neg (by omega), if_neg (by omega)]
            left
            rw [e]
            refine ⟨?_, rfl, rfl⟩
            split
            · rfl
            · rw [if_neg (by omega)]
        · simp only [if_neg c4]
          have e : decodeN n b0 b1 b2 b3 = (65533, 1) := by
            unfold decodeN
            rw [if_neg c1]
            by_cases k1 : b0 / 32 = 6 ∧ (1 < n ∧ b1 / 64 = 2)
            · rw [if_pos k1, if_neg (by omega)]
            · rw [if_neg k1, if_neg (by omega)]
              by_cases k2 : b0 / 8 = 30 ∧ (1 < n ∧ b1 / 64 = 2) ∧ (2 < n ∧ b2 / 64 = 2) ∧ (3 < n ∧ b3 / 64 = 2)
              · rw [if_pos k2, if_neg (by omega)]
              · rw [if_neg k2]
          left
          rw [e]
          exact ⟨by simp, rfl, rfl⟩
end Go.Proofs.YtcnpkijjnbhagaaGreatDoor
