/- The reference's begins, within and word, walked. -/
import Derived.Test.YtcnpkijjnbhagaaGreatDoorToks
import Derived.Test.YtcnpkijjnbhagaaGreatDoorProg
import Derived.WalkKit
import Derived.WalkSpells
import Derived.WalkLawsBesides
import Derived.WalkMore
import Derived.Lib.Hide
import Derived.Deep.QuietTactic
import Derived.BigQuiet
import Derived.Outline
namespace Go.Proofs.YtcnpkijjnbhagaaGreatDoor
open Go.RowKit

def BPost (b : Bool) (w : World) (e : Ending) (w' : World) : Prop := e = .returned (.bool b) ∧ w' = w
theorem extract_list (s : ByteArray) (p n : Nat) : (s.extract p (p + n)).data.toList = (s.data.toList.drop p).take n := by
  rw [ByteArray.data_extract, Array.toList_extract, List.extract_eq_take_drop]
  congr 1
  omega
theorem prefix_take (l w : List UInt8) : Lib.hasPrefix l w = decide (l.take w.length = w) := by
  unfold Lib.hasPrefix
  rw [Bool.eq_iff_iff, List.isPrefixOf_iff_prefix, List.prefix_iff_eq_take, decide_eq_true_eq]
  exact eq_comm

theorem beq_decide (a b : List UInt8) : (a == b) = decide (a = b) := by rw [Bool.eq_iff_iff]; simp
set_option maxHeartbeats 1000000 in
theorem begins_eq (s x : ByteArray) (p : Nat) (b : Bool) (w : World) (hs : s.size ≤ 1000000) (hx : x.size ≤ 1000) (hp : p ≤ s.size) (hb : Lib.hasPrefix (s.data.toList.drop p) x.data.toList = b) :
    Calls Tryz.prog 132 #[.string s, .int .i64 p, .string x] w (BPost b w) := by
  subst hb
  have hl : x.data.toList.length = x.size := by simp
  by_cases h : p + x.size ≤ s.size
  · go_enter Tryz.func132, Tryz.ntmps132
    go_wp2
    go_ret
    refine ⟨?_, rfl⟩
    rw [prefix_take, hl, ← extract_list]
    show Ending.returned (.bool ((s.extract p (p + x.size)).toList == x.toList)) = _
    rw [Lib.toList_data, Lib.toList_data, beq_decide]
  · have hf : Lib.hasPrefix (s.data.toList.drop p) x.data.toList = false := by
      rw [prefix_take, decide_eq_false_iff_not]
      intro e
      have := congrArg List.length e
      simp at this
      omega
    have HF := Lib.hid hf
    clear hf hl
    go_enter Tryz.func132, Tryz.ntmps132
    go_wp2
    go_ret
    refine ⟨?_, rfl⟩
    rw [HF.out]
    rfl
theorem within_any (p lo hi : Nat) (w : World) (h : lo ≤ hi) : Calls Tryz.prog 52 #[.int .i64 p, .int .i64 lo, .int .i64 hi] w fun e w' => e = .returned (.int .i64 ((min (max p lo) hi : Nat) : Int)) ∧ w' = w := by
  by_cases h1 : p < lo
  · go_enter Tryz.func52, Tryz.ntmps52
    go_wp2
    go_ret
    exact ⟨by rw [show min (max p lo) hi = lo from by omega]; rfl, rfl⟩
  · by_cases h2 : hi < p
    · go_enter Tryz.func52, Tryz.ntmps52
      go_wp2
      go_ret
      exact ⟨by rw [show min (max p lo) hi = hi from by omega]; rfl, rfl⟩
    · go_enter Tryz.func52, Tryz.ntmps52
      go_wp2
      go_ret
      exact ⟨by rw [show min (max p lo) hi = p from by omega]; rfl, rfl⟩

/-- A token as a value. -/
def tkv (t : Tk) : Value := .agg #[.int .i64 t.kd, .int .i64 t.fr, .int .i64 t.to, .int .i64 t.bd, .int .i64 t.en]
def WPost (t : Tk) (w : World) (e : Ending) (w' : World) : Prop := e = .returned (tkv t) ∧ Below w.heap.size w w'
def QR (s : ByteArray) (p k : Nat) : Prop := qF (s.data.toList.drop k) (k - p) = qF (s.data.toList.drop (p + 1)) 1 ∧ p + 1 ≤ k ∧ k ≤ s.size
def NR (s : ByteArray) (p k : Nat) : Prop := nlF (s.data.toList.drop p) = (k - p) + nlF (s.data.toList.drop k) ∧ p ≤ k ∧ k ≤ s.size
def IR (s : ByteArray) (p k : Nat) : Prop := Lib.index (s.data.toList.drop (p + 2)) [42, 47] = (if Lib.index (s.data.toList.drop k) [42, 47] = -1 then -1 else ((k - (p + 2) : Nat) : Int) + Lib.index (s.data.toList.drop k) [42, 47]) ∧ p + 2 ≤ k ∧ k ≤ s.size
theorem wdrop_cons (s : ByteArray) (k : Nat) (h : k < s.size) : s.data.toList.drop k = s[k] :: s.data.toList.drop (k + 1) := by
  rw [List.drop_eq_getElem_cons (by simpa using h)]; rfl
theorem drop_all (s : ByteArray) (k : Nat) (h : s.size ≤ k) : s.data.toList.drop k = [] := List.drop_eq_nil_of_le (by simpa using h)
theorem wbyte_eq {a : UInt8} {n : Nat} (hn : n < 256) (h : ((a.toNat : Int) == (n : Int)) = true) : a = UInt8.ofNat n := by
  have h1 : (a.toNat : Int) = n := by simpa using h
  apply UInt8.toNat_inj.1
  simp only [UInt8.toNat_ofNat', Nat.reducePow]
  omega
theorem wbyte_ne {a : UInt8} {n : Nat} (hn : n < 256) (h : ¬ (a.toNat : Int) = (n : Int)) : a ≠ UInt8.ofNat n := fun e => h (by
  subst e
  simp only [UInt8.toNat_ofNat', Nat.reducePow]
  omega)
theorem byte_is {a : UInt8} {n : Nat} (hn : n < 256) (h : a = UInt8.ofNat n) : (a.toNat : Int) = (n : Int) := by
  subst h
  simp only [UInt8.toNat_ofNat', Nat.reducePow]
  omega
/-- The quoted way: where the loop ends. -/
theorem word_q {s : ByteArray} {p : Nat} (hp : p < s.size) (h : s[p] = 34) {k e : Nat} (hk : p + 1 ≤ k) (he : k ≤ e) (hq : qF (s.data.toList.drop (p + 1)) 1 = (e - p, k - p)) : wordF s.data.toList p = ⟨1, p, e, p + 1, k⟩ := by
  have ht : tokF (s.data.toList.drop p) = (1, e - p, 1, k - p) := by
    rw [wdrop_cons s p hp, h]
    simp only [tokF, List.head?_cons, List.drop_succ_cons, List.drop_zero, hq, if_true]
  unfold wordF
  rw [ht, if_neg (by simp)]
  simp only [Tk.mk.injEq, true_and]
  omega
theorem wq_done {s : ByteArray} {p k : Nat} (h : QR s p k) (hk : s.size ≤ k) : qF (s.data.toList.drop (p + 1)) 1 = (k - p, k - p) := by
  rw [← h.1, drop_all s k hk]; rfl
theorem wq_nl {s : ByteArray} {p k : Nat} (h : QR s p k) (hk : k < s.size) (hc : s[k] = 10) : qF (s.data.toList.drop (p + 1)) 1 = (k - p, k - p) := by
  rw [← h.1, wdrop_cons s k hk, hc, qF_nl]
theorem wq_quote {s : ByteArray} {p k : Nat} (h : QR s p k) (hk : k < s.size) (hc : s[k] = 34) : qF (s.data.toList.drop (p + 1)) 1 = (k + 1 - p, k - p) := by
  have := h.2.1
  rw [← h.1, wdrop_cons s k hk, hc, qF_quote]
  congr 1; omega
theorem wq_esc {s : ByteArray} {p k : Nat} (h : QR s p k) (hk : k + 1 < s.size) (hc : s[k] = 92) (hd : s[k + 1] ≠ 10) : QR s p (k + 2) := by
  have h1 := h.2.1
  refine ⟨?_, by omega, by omega⟩
  rw [← h.1, wdrop_cons s k (by omega), wdrop_cons s (k + 1) hk, hc, qF_esc _ _ _ hd]
  congr 1; omega
theorem wq_one {s : ByteArray} {p k : Nat} (h : QR s p k) (hk : k < s.size) (h1 : s[k] ≠ 10) (h2 : s[k] ≠ 34) (h3 : s[k] = 92 → s.size ≤ k + 1 ∨ ∃ hh : k + 1 < s.size, s[k + 1] = 10) : QR s p (k + 1) := by
  have h4 := h.2.1
  refine ⟨?_, by omega, by omega⟩
  rw [← h.1, wdrop_cons s k hk, qF_one _ _ _ h1 h2]
  · congr 1; omega
  · intro e
    rcases h3 e with h5 | ⟨hh, h5⟩
    · exact .inl (drop_all s _ h5)
    · exact .inr ⟨_, by rw [wdrop_cons s (k + 1) hh, h5]⟩
/-- The line comment. -/
theorem n_step {s : ByteArray} {p k : Nat} (h : NR s p k) (hk : k < s.size) (hc : s[k] ≠ 10) : NR s p (k + 1) := by
  have h1 := h.2.1
  refine ⟨?_, by omega, by omega⟩
  rw [h.1, wdrop_cons s k hk]
  have hb : (s[k] != 10) = true := by simpa using hc
  simp only [nlF, List.takeWhile_cons, hb, if_true, List.length_cons]
  omega
theorem n_nl {s : ByteArray} {p k : Nat} (h : NR s p k) (hk : k < s.size) (hc : s[k] = 10) : nlF (s.data.toList.drop p) = k - p := by
  rw [h.1, wdrop_cons s k hk, hc]
  simp [nlF, List.takeWhile]
theorem n_done {s : ByteArray} {p k : Nat} (h : NR s p k) (hk : s.size ≤ k) : nlF (s.data.toList.drop p) = k - p := by
  rw [h.1, drop_all s k hk]
  simp [nlF]
theorem word_l {s : ByteArray} {p : Nat} (hp : p < s.size) (h : s[p] ≠ 34) (hl : Lib.hasPrefix (s.data.toList.drop p) [47, 47] = true) {k : Nat} (hk : p ≤ k) (hn : nlF (s.data.toList.drop p) = k - p) : wordF s.data.toList p = ⟨2, p, k, p + 2, k⟩ := by
  have ht : tokF (s.data.toList.drop p) = (2, k - p, 2, k - p) := by
    unfold tokF
    rw [if_neg (by rw [wdrop_cons s p hp]; simpa using h), if_pos hl, hn]
  unfold wordF
  rw [ht, if_neg (by simp)]
  simp only [Tk.mk.injEq, true_and]
  omega
/-- The block comment. -/
theorem i_start (s : ByteArray) (p : Nat) (h : p + 2 ≤ s.size) : IR s p (p + 2) := by
  refine ⟨?_, Nat.le_refl _, h⟩
  split
  · assumption
  · simp
theorem i_step {s : ByteArray} {p k : Nat} (h : IR s p k) (hk : k < s.size) (hn : Lib.hasPrefix (s.data.toList.drop k) [42, 47] = false) : IR s p (k + 1) := by
  have h1 := h.2.1
  refine ⟨?_, by omega, by omega⟩
  rw [h.1]
  have hi : Lib.index (s.data.toList.drop k) [42, 47] = if Lib.index (s.data.toList.drop (k + 1)) [42, 47] = -1 then -1 else Lib.index (s.data.toList.drop (k + 1)) [42, 47] + 1 := by
    rw [wdrop_cons s k hk] at hn ⊢
    unfold Lib.hasPrefix at hn
    rw [Lib.index, if_neg (by rw [hn]; decide)]
    simp only [beq_iff_eq]
  have hg := Lib.index_ge (s.data.toList.drop (k + 1)) [42, 47]
  rw [hi]
  by_cases h0 : Lib.index (s.data.toList.drop (k + 1)) [42, 47] = -1
  · simp [h0]
  · simp only [h0, if_false]
    rw [if_neg (by omega)]
    omega
theorem word_b {s : ByteArray} {p : Nat} (hp : p < s.size) (h : s[p] ≠ 34) (hl : Lib.hasPrefix (s.data.toList.drop p) [47, 47] = false) (hb : Lib.hasPrefix (s.data.toList.drop p) [47, 42] = true) {k : Nat} (hI : IR s p k)
    (hk : k < s.size) (hy : Lib.hasPrefix (s.data.toList.drop k) [42, 47] = true) : wordF s.data.toList p = ⟨2, p, k + 2, p + 2, k⟩ := by
  have h1 := hI.2.1
  have h0 : Lib.index (s.data.toList.drop k) [42, 47] = 0 := by
    rw [wdrop_cons s k hk] at hy ⊢
    unfold Lib.hasPrefix at hy
    rw [Lib.index, if_pos hy]
  have h2 := hI.1
  rw [h0, if_neg (by decide)] at h2
  have h3 : (s.data.toList.drop p).drop 2 = s.data.toList.drop (p + 2) := by rw [List.drop_drop]
  have ht : tokF (s.data.toList.drop p) = (2, k + 2 - p, 2, k - p) := by
    unfold tokF
    rw [if_neg (by rw [wdrop_cons s p hp]; simpa using h), if_neg (by rw [hl]; decide), if_pos hb, h3, h2, if_neg (by omega)]
    simp only [Prod.mk.injEq, true_and]
    omega
  unfold wordF
  rw [ht, if_neg (by simp)]
  simp only [Tk.mk.injEq, true_and]
  omega
theorem word_e {s : ByteArray} {p : Nat} (hp : p < s.size) (h : s[p] ≠ 34) (hl : Lib.hasPrefix (s.data.toList.drop p) [47, 47] = false) (hb : Lib.hasPrefix (s.data.toList.drop p) [47, 42] = true) {k : Nat} (hI : IR s p k)
    (hk : s.size ≤ k) : wordF s.data.toList p = ⟨2, p, k, p + 2, k⟩ := by
  have h1 := hI.2
  have h0 : Lib.index (s.data.toList.drop k) [42, 47] = -1 := by
    rw [drop_all s k hk]; rfl
  have h2 := hI.1
  rw [h0, if_pos rfl] at h2
  have h3 : (s.data.toList.drop p).drop 2 = s.data.toList.drop (p + 2) := by rw [List.drop_drop]
  have ht : tokF (s.data.toList.drop p) = (2, k - p, 2, k - p) := by
    unfold tokF
    rw [if_neg (by rw [wdrop_cons s p hp]; simpa using h), if_neg (by rw [hl]; decide), if_pos hb, h3, h2, if_pos (by decide)]
    simp only [List.length_drop, Array.length_toList, ByteArray.size_data, Prod.mk.injEq, true_and]
    omega
  unfold wordF
  rw [ht, if_neg (by simp)]
  simp only [Tk.mk.injEq, true_and]
  omega
theorem word_c {s : ByteArray} {p : Nat} (hp : p < s.size) (h : s[p] ≠ 34) (hl : Lib.hasPrefix (s.data.toList.drop p) [47, 47] = false) (hb : Lib.hasPrefix (s.data.toList.drop p) [47, 42] = false) : wordF s.data.toList p = ⟨0, p, p + 1, 0, 0⟩ := by
  have ht : tokF (s.data.toList.drop p) = (0, 1, 0, 0) := by
    unfold tokF
    rw [if_neg (by rw [wdrop_cons s p hp]; simpa using h), if_neg (by rw [hl]; decide), if_neg (by rw [hb]; decide)]
  unfold wordF
  rw [ht, if_pos rfl]
theorem pre_room {s : ByteArray} {p : Nat} {a b : UInt8} (h : Lib.hasPrefix (s.data.toList.drop p) [a, b] = true) : p + 2 ≤ s.size := by
  obtain ⟨t, ht⟩ := prefix2 h
  have := congrArg List.length ht
  simp at this
  omega

set_option maxHeartbeats 2000000 in
set_option maxRecDepth 100000 in
theorem word_quote (s : ByteArray) (p : Nat) (w : World) (hs : s.size ≤ 1000000) (hp : p < s.size) (h34 : ((s[p].toNat : Int) == 34) = true) (a b : Bool)
    (ha : ∀ W : World, Calls Tryz.prog 132 #[.string s, .int .i64 p, .string ⟨#[47, 47]⟩] W (BPost a W)) (hb : ∀ W : World, Calls Tryz.prog 132 #[.string s, .int .i64 p, .string ⟨#[47, 42]⟩] W (BPost b W)) :
    Calls Tryz.prog 95 #[.string s, .int .i64 p] w (WPost (wordF s.data.toList p) w) := by
  have HA := Lib.hid ha
  have HB := Lib.hid hb
  clear ha hb
  go_enter Tryz.func95, Tryz.ntmps95
  go_wp2_with (first | (go_at_call 132; refine (HA.out _).mono ?_; clear HA; rintro e w' ⟨rfl, rfl⟩) | (go_at_call 132; refine (HB.out _).mono ?_; clear HB; rintro e w' ⟨rfl, rfl⟩))
  have hc : s[p] = 34 := wbyte_eq (n := 34) (by decide) h34
  have HC := Lib.hid hc
  clear hc
  go_loop [7] (fun q => ∃ k : Nat, q = .int .i64 k ∧ QR s p k) (fun q => s.size - (intOf q).toNat)
  case atStart => exact ⟨p + 1, rfl, by rw [show p + 1 - p = 1 from by omega], Nat.le_refl _, hp⟩
  case round =>
    obtain ⟨k, rfl, hq⟩ := hrel
    have h1 := hq.2.1
    have h2 := hq.2.2
    have HQ := Lib.hid hq
    clear hq
    by_cases hk : k < s.size
    · by_cases c34 : s[k] = 34
      · have e1 : ((s[k].toNat : Int) == 34) = true := by rw [c34]; rfl
        have e2 : ((s[k].toNat : Int) != 34) = false := by rw [c34]; rfl
        have HF := Lib.hid (word_q hp HC.out (Nat.le_of_lt_succ (by omega)) (Nat.le_succ k) (wq_quote HQ.out hk c34))
        clear c34
        go_wp2
        exact bodyPost_ret (v := tkv ⟨1, p, k + 1, p + 1, k⟩) (by simp [results, Tryz.results95, go_sem, tkv]) rfl ⟨by rw [HF.out], (Below.refl _ _).alloc (Nat.le_refl _) _⟩
      · have e1 : ((s[k].toNat : Int) == 34) = false := by simpa using fun e => c34 (wbyte_eq (n := 34) (by decide) (by simpa using e))
        have e2 : ((s[k].toNat : Int) != 34) = true := by simpa using e1
        by_cases c10 : s[k] = 10
        · have e3 : ((s[k].toNat : Int) == 10) = true := by rw [c10]; rfl
          have e4 : ((s[k].toNat : Int) != 10) = false := by rw [c10]; rfl
          have HF := Lib.hid (word_q hp HC.out (Nat.le_of_lt_succ (by omega)) (Nat.le_refl k) (wq_nl HQ.out hk c10))
          clear c34 c10
          go_wp2
          exact bodyPost_ret (v := tkv ⟨1, p, k, p + 1, k⟩) (by simp [results, Tryz.results95, go_sem, tkv]) rfl ⟨by rw [HF.out], (Below.refl _ _).alloc (Nat.le_refl _) _⟩
        · have e3 : ((s[k].toNat : Int) == 10) = false := by simpa using fun e => c10 (wbyte_eq (n := 10) (by decide) (by simpa using e))
          have e4 : ((s[k].toNat : Int) != 10) = true := by simpa using e3
          have C34 := Lib.hid c34
          have C10 := Lib.hid c10
          clear c34 c10
          by_cases c92 : s[k] = 92
          · have e5 : ((s[k].toNat : Int) == 92) = true := by rw [c92]; rfl
            by_cases hk1 : k + 1 < s.size
            · have hk2 : (k : Int) + 1 < s.size := by omega
              by_cases d10 : s[k + 1] = 10
              · have e6 : ((s[k + 1].toNat : Int) != 10) = false := by rw [d10]; rfl
                have HN := Lib.hid (wq_one HQ.out hk C10.out C34.out (fun _ => .inr ⟨hk1, d10⟩))
                clear c92 d10
                go_wp2
                go_round
                case rel => exact ⟨k + 1, by go_num, HN.out⟩
                case measure => simp [intOf]; omega
              · have e6 : ((s[k + 1].toNat : Int) != 10) = true := by simpa using fun e => d10 (wbyte_eq (n := 10) (by decide) (by simpa using e))
                have HN := Lib.hid (wq_esc HQ.out hk1 c92 d10)
                clear c92 d10
                go_wp2
                go_round
                case rel => exact ⟨k + 2, by go_num, HN.out⟩
                case measure => simp [intOf]; omega
            · have hk2 : (s.size : Int) ≤ k + 1 := by omega
              have HN := Lib.hid (wq_one HQ.out hk C10.out C34.out (fun _ => .inl (by omega)))
              clear c92 hk1
              go_wp2
              go_round
              case rel => exact ⟨k + 1, by go_num, HN.out⟩
              case measure => simp [intOf]; omega
          · have e5 : ((s[k].toNat : Int) == 92) = false := by simpa using fun e => c92 (wbyte_eq (n := 92) (by decide) (by simpa using e))
            have HN := Lib.hid (wq_one HQ.out hk C10.out C34.out (fun e => absurd e c92))
            clear c92
            go_wp2
            go_round
            case rel => exact ⟨k + 1, by go_num, HN.out⟩
            case measure => simp [intOf]; omega
    · have hk' : s.size ≤ k := by omega
      have HF := Lib.hid (word_q hp HC.out (Nat.le_of_lt_succ (by omega)) (Nat.le_refl k) (wq_done HQ.out hk'))
      clear hk
      go_wp2
      exact bodyPost_ret (v := tkv ⟨1, p, k, p + 1, k⟩) (by simp [results, Tryz.results95, go_sem, tkv]) rfl ⟨by rw [HF.out], (Below.refl _ _).alloc (Nat.le_refl _) _⟩
end Go.Proofs.YtcnpkijjnbhagaaGreatDoor
