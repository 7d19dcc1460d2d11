/- The reference's word, walked on its other ways: a line's comment, a block's comment, code. -/
import Derived.Test.YtcnpkijjnbhagaaGreatDoorWord
namespace Go.Proofs.YtcnpkijjnbhagaaGreatDoor
open Go.RowKit

set_option maxHeartbeats 2000000 in
set_option maxRecDepth 100000 in
theorem word_line (s : ByteArray) (p : Nat) (w : World) (hs : s.size ≤ 1000000) (hp : p < s.size) (h34 : ((s[p].toNat : Int) == 34) = false) (b : Bool) (hl : Lib.hasPrefix (s.data.toList.drop p) [47, 47] = true)
    (ha : ∀ W : World, Calls Tryz.prog 132 #[.string s, .int .i64 p, .string ⟨#[47, 47]⟩] W (BPost true W)) (hb : ∀ W : World, Calls Tryz.prog 132 #[.string s, .int .i64 p, .string ⟨#[47, 42]⟩] W (BPost b W)) :
    Calls Tryz.prog 95 #[.string s, .int .i64 p] w (WPost (wordF s.data.toList p) w) := by
  have HA := Lib.hid ha
  have HB := Lib.hid hb
  have HL := Lib.hid hl
  have hne : s[p] ≠ 34 := wbyte_ne (n := 34) (by decide) (by simpa using h34)
  have HN := Lib.hid hne
  clear ha hb hl hne
  go_enter Tryz.func95, Tryz.ntmps95
  go_wp2_with (first | (go_at_call 132; refine (HA.out _).mono ?_; clear HA; rintro e w' ⟨rfl, rfl⟩) | (go_at_call 132; refine (HB.out _).mono ?_; clear HB; rintro e w' ⟨rfl, rfl⟩))
  go_loop [7] (fun q => ∃ k : Nat, q = .int .i64 k ∧ NR s p k) (fun q => s.size - (intOf q).toNat)
  case atStart => exact ⟨p, rfl, by rw [Nat.sub_self, Nat.zero_add], Nat.le_refl _, Nat.le_of_lt hp⟩
  case round =>
    obtain ⟨k, rfl, hq⟩ := hrel
    have h1 := hq.2.1
    have h2 := hq.2.2
    have HQ := Lib.hid hq
    clear hq
    by_cases hk : k < s.size
    · by_cases c10 : s[k] = 10
      · have e3 : ((s[k].toNat : Int) == 10) = true := by rw [c10]; rfl
        have e4 : ((s[k].toNat : Int) != 10) = false := by rw [c10]; rfl
        have HF := Lib.hid (word_l hp HN.out HL.out h1 (n_nl HQ.out hk c10))
        clear c10
        go_wp2
        exact bodyPost_ret (v := tkv ⟨2, p, k, p + 2, k⟩) (by simp [results, Tryz.results95, go_sem, tkv]) rfl ⟨by rw [HF.out], (Below.refl _ _).alloc (Nat.le_refl _) _⟩
      · have e3 : ((s[k].toNat : Int) == 10) = false := by simpa using fun e => c10 (wbyte_eq (n := 10) (by decide) (by simpa using e))
        have e4 : ((s[k].toNat : Int) != 10) = true := by simpa using e3
        have HS := Lib.hid (n_step HQ.out hk c10)
        clear c10
        go_wp2
        go_round
        case rel => exact ⟨k + 1, by go_num, HS.out⟩
        case measure => simp [intOf]; omega
    · have hk' : s.size ≤ k := by omega
      have HF := Lib.hid (word_l hp HN.out HL.out h1 (n_done HQ.out hk'))
      clear hk
      go_wp2
      exact bodyPost_ret (v := tkv ⟨2, p, k, p + 2, k⟩) (by simp [results, Tryz.results95, go_sem, tkv]) rfl ⟨by rw [HF.out], (Below.refl _ _).alloc (Nat.le_refl _) _⟩

set_option maxHeartbeats 2000000 in
set_option maxRecDepth 100000 in
theorem word_code (s : ByteArray) (p : Nat) (w : World) (hs : s.size ≤ 1000000) (hp : p < s.size) (h34 : ((s[p].toNat : Int) == 34) = false) (hl : Lib.hasPrefix (s.data.toList.drop p) [47, 47] = false) (hk : Lib.hasPrefix (s.data.toList.drop p) [47, 42] = false)
    (ha : ∀ W : World, Calls Tryz.prog 132 #[.string s, .int .i64 p, .string ⟨#[47, 47]⟩] W (BPost false W)) (hb : ∀ W : World, Calls Tryz.prog 132 #[.string s, .int .i64 p, .string ⟨#[47, 42]⟩] W (BPost false W)) :
    Calls Tryz.prog 95 #[.string s, .int .i64 p] w (WPost (wordF s.data.toList p) w) := by
  have HA := Lib.hid ha
  have HB := Lib.hid hb
  have hne : s[p] ≠ 34 := wbyte_ne (n := 34) (by decide) (by simpa using h34)
  have HF := Lib.hid (word_c hp hne hl hk)
  clear ha hb hl hk hne
  go_enter Tryz.func95, Tryz.ntmps95
  go_wp2_with (first | (go_at_call 132; refine (HA.out _).mono ?_; clear HA; rintro e w' ⟨rfl, rfl⟩) | (go_at_call 132; refine (HB.out _).mono ?_; clear HB; rintro e w' ⟨rfl, rfl⟩))
  exact bodyPost_ret (v := tkv ⟨0, p, p + 1, 0, 0⟩) (by simp [results, Tryz.results95, go_sem, tkv]) rfl ⟨by rw [HF.out], (Below.refl _ _).alloc (Nat.le_refl _) _⟩

set_option maxHeartbeats 2000000 in
set_option maxRecDepth 100000 in
theorem word_block (s : ByteArray) (p : Nat) (w : World) (hs : s.size ≤ 1000000) (hp : p < s.size) (h34 : ((s[p].toNat : Int) == 34) = false) (hl : Lib.hasPrefix (s.data.toList.drop p) [47, 47] = false) (hbk : Lib.hasPrefix (s.data.toList.drop p) [47, 42] = true)
    (ha : ∀ W : World, Calls Tryz.prog 132 #[.string s, .int .i64 p, .string ⟨#[47, 47]⟩] W (BPost false W)) (hb : ∀ W : World, Calls Tryz.prog 132 #[.string s, .int .i64 p, .string ⟨#[47, 42]⟩] W (BPost true W)) :
    Calls Tryz.prog 95 #[.string s, .int .i64 p] w (WPost (wordF s.data.toList p) w) := by
  have HA := Lib.hid ha
  have HB := Lib.hid hb
  have hne : s[p] ≠ 34 := wbyte_ne (n := 34) (by decide) (by simpa using h34)
  have HI := Lib.hid (i_start s p (pre_room hbk))
  have hWb : Hid (∀ k (hk : k < s.size), IR s p k → Lib.hasPrefix (s.data.toList.drop k) [42, 47] = true → wordF s.data.toList p = ⟨2, p, k + 2, p + 2, k⟩) := fun k hk a b => word_b hp hne hl hbk a hk b
  have hWe : Hid (∀ k, s.size ≤ k → IR s p k → wordF s.data.toList p = ⟨2, p, k, p + 2, k⟩) := fun k hk a => word_e hp hne hl hbk a hk
  clear ha hb hl hbk hne
  go_enter Tryz.func95, Tryz.ntmps95
  go_wp2_with (first | (go_at_call 132; refine (HA.out _).mono ?_; clear HA; rintro e w' ⟨rfl, rfl⟩) | (go_at_call 132; refine (HB.out _).mono ?_; clear HB; rintro e w' ⟨rfl, rfl⟩))
  go_loop [7] (fun q => ∃ k : Nat, q = .int .i64 k ∧ IR s p k) (fun q => s.size - (intOf q).toNat)
  case atStart => exact ⟨p + 2, rfl, HI.out⟩
  case round =>
    obtain ⟨k, rfl, hq⟩ := hrel
    have h1 := hq.2.1
    have h2 := hq.2.2
    have HQ := Lib.hid hq
    clear hq
    by_cases hk : k < s.size
    · by_cases hy : Lib.hasPrefix (s.data.toList.drop k) [42, 47] = true
      · have HC := Lib.hid (fun W : World => begins_eq s ⟨#[42, 47]⟩ k true W hs (by decide) (by omega) hy)
        have HF := Lib.hid (hWb.out k hk HQ.out hy)
        clear hy
        go_wp2_with (go_at_call 132; refine (HC.out _).mono ?_; rintro e w' ⟨rfl, rfl⟩)
        exact bodyPost_ret (v := tkv ⟨2, p, k + 2, p + 2, k⟩) (by simp [results, Tryz.results95, go_sem, tkv]) rfl ⟨by rw [HF.out], (Below.refl _ _).alloc (Nat.le_refl _) _⟩
      · have hy' : Lib.hasPrefix (s.data.toList.drop k) [42, 47] = false := by simpa using hy
        have HC := Lib.hid (fun W : World => begins_eq s ⟨#[42, 47]⟩ k false W hs (by decide) (by omega) hy')
        have HS := Lib.hid (i_step HQ.out hk hy')
        clear hy hy'
        go_wp2_with (go_at_call 132; refine (HC.out _).mono ?_; rintro e w' ⟨rfl, rfl⟩)
        go_round
        case rel => exact ⟨k + 1, by go_num, HS.out⟩
        case measure => simp [intOf]; omega
    · have hk' : s.size ≤ k := by omega
      have HF := Lib.hid (hWe.out k hk' HQ.out)
      clear hk
      go_wp2
      exact bodyPost_ret (v := tkv ⟨2, p, k, p + 2, k⟩) (by simp [results, Tryz.results95, go_sem, tkv]) rfl ⟨by rw [HF.out], (Below.refl _ _).alloc (Nat.le_refl _) _⟩

/-- The reference's word, whatever stands at the place. -/
theorem word_any (s : ByteArray) (p : Nat) (w : World) (hs : s.size ≤ 1000000) (hp : p < s.size) : Calls Tryz.prog 95 #[.string s, .int .i64 p] w (WPost (wordF s.data.toList p) w) := by
  have ha := fun (c : Bool) (h : Lib.hasPrefix (s.data.toList.drop p) [47, 47] = c) (W : World) => begins_eq s ⟨#[47, 47]⟩ p c W hs (by decide) (by omega) h
  have hb := fun (c : Bool) (h : Lib.hasPrefix (s.data.toList.drop p) [47, 42] = c) (W : World) => begins_eq s ⟨#[47, 42]⟩ p c W hs (by decide) (by omega) h
  cases h34 : ((s[p].toNat : Int) == 34) with
  | true => exact word_quote s p w hs hp h34 _ _ (ha _ rfl) (hb _ rfl)
  | false =>
    cases hl : Lib.hasPrefix (s.data.toList.drop p) [47, 47] with
    | true => exact word_line s p w hs hp h34 _ hl (ha _ hl) (hb _ rfl)
    | false =>
      cases hk : Lib.hasPrefix (s.data.toList.drop p) [47, 42] with
      | true => exact word_block s p w hs hp h34 hl hk (ha _ hl) (hb _ hk)
      | false => exact word_code s p w hs hp h34 hl hk (ha _ hl) (hb _ hk)
end Go.Proofs.YtcnpkijjnbhagaaGreatDoor
