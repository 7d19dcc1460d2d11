/- The reference's size, walked. -/
import Derived.Test.YtcnpkijjnbhagaaGreatDoorCplain
import Derived.WalkKit
import Derived.WalkSpells
import Derived.WalkLawsBesides
import Derived.WalkMore
import Derived.Lib.Hide
import Derived.Deep.QuietTactic
import Derived.BigQuiet
import Derived.Outline
namespace Go.Proofs.YtcnpkijjnbhagaaGreatDoor
open Go.RowKit

theorem by_get (s : ByteArray) (j : Nat) (h : j < s.size) : byF s.data.toList j = (s[j]).toNat := by
  unfold byF
  rw [List.getD_eq_getElem?_getD, List.getElem?_eq_getElem (by simpa using h)]
  rfl
theorem and_mask (b m : Nat) (hb : b < 256) (hm : m = 31 ∨ m = 15 ∨ m = 7) : bits .and .i64 (b : Int) (m : Int) = ((b % (m + 1) : Nat) : Int) := by
  rcases hm with rfl | rfl | rfl
  · exact (show ∀ X : Fin 256, bits .and .i64 ((X.val : Nat) : Int) 31 = ((X.val % 32 : Nat) : Int) by decide +kernel) ⟨b, hb⟩
  · exact (show ∀ X : Fin 256, bits .and .i64 ((X.val : Nat) : Int) 15 = ((X.val % 16 : Nat) : Int) by decide +kernel) ⟨b, hb⟩
  · exact (show ∀ X : Fin 256, bits .and .i64 ((X.val : Nat) : Int) 7 = ((X.val % 8 : Nat) : Int) by decide +kernel) ⟨b, hb⟩
theorem val_step (l : List UInt8) (m k : Nat) (hk : 1 ≤ k) (hc : 128 ≤ byF l k) : (valF l m (k + 1) : Int) = 64 * (valF l m k : Int) + (byF l k : Int) - 128 := by
  show ((if k = 0 then byF l 0 % m else 64 * valF l m k + byF l k - 128 : Nat) : Int) = _
  rw [if_neg (by omega)]
  omega
theorem val_lt (l : List UInt8) (m : Nat) (hm : m ≤ 32) (hm0 : 0 < m) : ∀ k, k ≤ 4 → valF l m k ≤ 20000000 := by
  have h0 : byF l 0 % m < 32 := Nat.lt_of_lt_of_le (Nat.mod_lt _ hm0) hm
  have h1 := byF_lt l 1
  have h2 := byF_lt l 2
  have h3 := byF_lt l 3
  intro k hk
  rcases (by omega : k = 0 ∨ k = 1 ∨ k = 2 ∨ k = 3 ∨ k = 4) with rfl | rfl | rfl | rfl | rfl
  · simp [valF]
  · simp [valF]; omega
  · rw [val2]; omega
  · rw [val3]; omega
  · rw [val4]; omega
/-- The loop over the bytes behind the lead byte. -/
def SzRel (l : List UInt8) (n m : Nat) (W : World) (r i : Value) (wr : World) : Prop := ∃ k : Nat, i = .int .i64 k ∧ r = .int .i64 (valF l m k) ∧ 1 ≤ k ∧ k ≤ n ∧ contF l k ∧ W = wr
theorem sz_next {l : List UInt8} {n m k : Nat} {W : World} {x y : Int} (hx : x = (k : Int) + 1) (hk : k < n) (hk1 : 1 ≤ k) (hc : contF l k) (h1 : 128 ≤ byF l k) (h2 : byF l k ≤ 191) (hy : y = 64 * (valF l m k : Int) + (byF l k : Int) - 128) :
    SzRel l n m W (.int .i64 y) (.int .i64 x) W := by
  subst hx
  rw [hy, ← val_step l m k hk1 h1]
  refine ⟨k + 1, rfl, rfl, by omega, hk, fun j hj hj1 => ?_, rfl⟩
  rcases (by omega : j < k ∨ j = k) with h | rfl
  · exact hc j h hj1
  · exact ⟨h1, h2⟩
theorem sz_start (l : List UInt8) (n m : Nat) (W : World) (hn : 1 ≤ n) (x : Int) (hx : x = ((byF l 0 % m : Nat) : Int)) : SzRel l n m W (.int .i64 x) (.int .i64 1) W := by
  subst hx
  exact ⟨1, rfl, by simp [valF], by omega, hn, fun j h1 h2 => by omega, rfl⟩
def SzPost (l : List UInt8) (w : World) (e : Ending) (w' : World) : Prop := e = .returned (.int .i64 (szF l)) ∧ w = w'
theorem sz_less {n k : Nat} {x : Int} (hx : x = (k : Int) + 1) (hk : k < n) : n - (intOf (.int .i64 x)).toNat < n - (intOf (.int .i64 (k : Int))).toNat := by
  subst hx
  simp [intOf]
  omega
set_option maxHeartbeats 2000000 in
set_option maxRecDepth 100000 in
theorem size2 (s : ByteArray) (w : World) (hs : s.size ≤ 1000000) (hlo : 194 ≤ byF s.data.toList 0) (hhi : byF s.data.toList 0 < 224) (hp : 0 < s.size) :
    Calls Tryz.prog 71 #[.string s] w (SzPost s.data.toList w) := by
  obtain ⟨l, hl⟩ : ∃ l, l = s.data.toList := ⟨_, rfl⟩
  have hll : l.length = s.size := by rw [hl]; simp
  have hsz : szF l = szG l 2 32 128 := by
    rw [← hl] at hlo hhi
    unfold szF
    rw [if_neg (by omega), if_pos (by omega)]
  have hb : ∀ j (h : j < s.size), ((s[j]).toNat : Int) = (byF l j : Int) := fun j h => by rw [hl, by_get s j h]
  rw [← hl] at hlo hhi ⊢
  have HS := Lib.hid hsz
  have HB := Lib.hid hb
  have HL := Lib.hid hll
  have h0 := hb 0 hp
  have hlo' : (194 : Int) ≤ (byF l 0 : Int) := by omega
  have hhi' : (byF l 0 : Int) < 224 := by omega
  have hm := and_mask (byF l 0) (32 - 1) (byF_lt l 0) (by omega)
  simp only [Nat.reduceSub, Nat.reduceAdd] at hm
  norm_cast at hm
  have HLo := Lib.hid (And.intro hlo hhi)
  clear hl hll hsz hb hlo hhi
  by_cases hlen : s.size < 2
  · have hz : Hid (szF l = 0) := by
      rw [HS.out]; unfold szG; rw [if_pos (by rw [HL.out]; exact hlen)]; exact rfl
    go_enter Tryz.func71, Tryz.ntmps71
    go_wp2
    go_ret
    exact ⟨by rw [hz.out]; rfl, rfl⟩
  · have hlen' : 2 ≤ s.size := by omega
    clear hlen
    go_enter Tryz.func71, Tryz.ntmps71
    go_wp2
    go_loopw [6, 7] (SzRel l 2 32 w) (fun _ i _ => 2 - (intOf i).toNat)
    case atStart => exact sz_start l 2 32 w (by omega) _ (by omega)
    case round =>
      obtain ⟨k, rfl, rfl, hk1, hk, hc, rfl⟩ := hrel
      have hv := val_lt l 32 (by omega) (by omega) k (by omega)
      by_cases hkn : k < 2
      · have hks : k < s.size := by omega
        have hbk := HB.out k hks
        have hbl := byF_lt l k
        have HC := Lib.hid hc
        clear hc
        by_cases q1 : 128 ≤ byF l k
        · by_cases q2 : byF l k ≤ 191
          · have e1 : ¬ (byF l k : Int) < 128 := by omega
            have e2 : ¬ (191 : Int) < (byF l k : Int) := by omega
            go_wp2
            go_roundw
            case rel => exact sz_next rfl hkn hk1 HC.out q1 q2 (by omega)
            case measure => exact sz_less rfl hkn
          · have hz : Hid (szF l = 0) := by
              rw [HS.out]; unfold szG
              rw [if_neg (by rw [HL.out]; omega), if_neg (fun h => q2 (h k hkn hk1).2)]; exact rfl
            have e1 : ¬ (byF l k : Int) < 128 := by omega
            have e2 : (191 : Int) < (byF l k : Int) := by omega
            go_wp2
            go_ret
            exact ⟨by rw [hz.out]; rfl, rfl⟩
        · have hz : Hid (szF l = 0) := by
            rw [HS.out]; unfold szG
            rw [if_neg (by rw [HL.out]; omega), if_neg (fun h => q1 (h k hkn hk1).1)]; exact rfl
          have e1 : (byF l k : Int) < 128 := by omega
          go_wp2
          go_ret
          exact ⟨by rw [hz.out]; rfl, rfl⟩
      · obtain rfl : k = 2 := by omega
        have HZ : Hid (szF l = (if valF l 32 2 < 128 ∨ 1114111 < valF l 32 2 ∨ (55296 ≤ valF l 32 2 ∧ valF l 32 2 ≤ 57343) then 0 else 2)) := by
          rw [HS.out]; unfold szG
          rw [if_neg (by rw [HL.out]; omega), if_pos hc]; exact rfl
        clear hc hkn hk hk1
        obtain ⟨v, hvv⟩ : ∃ v, v = valF l 32 2 := ⟨_, rfl⟩
        rw [← hvv] at HZ hv ⊢
        clear hvv
        by_cases q1 : v < 128
        · have HQ := Lib.hid q1
          go_wp2
          go_ret
          exact ⟨by rw [HZ.out, if_pos (.inl HQ.out)]; rfl, rfl⟩
        · by_cases q2 : 1114111 < v
          · have HQ := Lib.hid q2
            go_wp2
            go_ret
            exact ⟨by rw [HZ.out, if_pos (.inr (.inl HQ.out))]; rfl, rfl⟩
          · by_cases q3 : 55296 ≤ v
            · by_cases q4 : v ≤ 57343
              · have HQ := Lib.hid (And.intro q3 q4)
                go_wp2
                all_goals go_ret
                all_goals exact ⟨by rw [HZ.out, if_pos (.inr (.inr HQ.out))]; rfl, rfl⟩
              · have HQ : Hid (¬ (v < 128 ∨ 1114111 < v ∨ (55296 ≤ v ∧ v ≤ 57343))) := (by omega : ¬ (v < 128 ∨ 1114111 < v ∨ (55296 ≤ v ∧ v ≤ 57343)))
                go_wp2
                go_ret
                exact ⟨by rw [HZ.out, if_neg HQ.out]; try rfl, rfl⟩
            · have HQ : Hid (¬ (v < 128 ∨ 1114111 < v ∨ (55296 ≤ v ∧ v ≤ 57343))) := (by omega : ¬ (v < 128 ∨ 1114111 < v ∨ (55296 ≤ v ∧ v ≤ 57343)))
              go_wp2
              all_goals go_ret
              all_goals exact ⟨by rw [HZ.out, if_neg HQ.out]; try rfl, rfl⟩
set_option maxHeartbeats 2000000 in
set_option maxRecDepth 100000 in
theorem size3 (s : ByteArray) (w : World) (hs : s.size ≤ 1000000) (hlo : 224 ≤ byF s.data.toList 0) (hhi : byF s.data.toList 0 < 240) (hp : 0 < s.size) :
    Calls Tryz.prog 71 #[.string s] w (SzPost s.data.toList w) := by
  obtain ⟨l, hl⟩ : ∃ l, l = s.data.toList := ⟨_, rfl⟩
  have hll : l.length = s.size := by rw [hl]; simp
  have hsz : szF l = szG l 3 16 2048 := by
    rw [← hl] at hlo hhi
    unfold szF
    rw [if_neg (by omega), if_neg (by omega), if_pos (by omega)]
  have hb : ∀ j (h : j < s.size), ((s[j]).toNat : Int) = (byF l j : Int) := fun j h => by rw [hl, by_get s j h]
  rw [← hl] at hlo hhi ⊢
  have HS := Lib.hid hsz
  have HB := Lib.hid hb
  have HL := Lib.hid hll
  have h0 := hb 0 hp
  have hlo' : (224 : Int) ≤ (byF l 0 : Int) := by omega
  have hhi' : (byF l 0 : Int) < 240 := by omega
  have hm := and_mask (byF l 0) (16 - 1) (byF_lt l 0) (by omega)
  simp only [Nat.reduceSub, Nat.reduceAdd] at hm
  norm_cast at hm
  have HLo := Lib.hid (And.intro hlo hhi)
  clear hl hll hsz hb hlo hhi
  by_cases hlen : s.size < 3
  · have hz : Hid (szF l = 0) := by
      rw [HS.out]; unfold szG; rw [if_pos (by rw [HL.out]; exact hlen)]; exact rfl
    go_enter Tryz.func71, Tryz.ntmps71
    go_wp2
    go_ret
    exact ⟨by rw [hz.out]; rfl, rfl⟩
  · have hlen' : 3 ≤ s.size := by omega
    clear hlen
    go_enter Tryz.func71, Tryz.ntmps71
    go_wp2
    go_loopw [6, 7] (SzRel l 3 16 w) (fun _ i _ => 3 - (intOf i).toNat)
    case atStart => exact sz_start l 3 16 w (by omega) _ (by omega)
    case round =>
      obtain ⟨k, rfl, rfl, hk1, hk, hc, rfl⟩ := hrel
      have hv := val_lt l 16 (by omega) (by omega) k (by omega)
      by_cases hkn : k < 3
      · have hks : k < s.size := by omega
        have hbk := HB.out k hks
        have hbl := byF_lt l k
        have HC := Lib.hid hc
        clear hc
        by_cases q1 : 128 ≤ byF l k
        · by_cases q2 : byF l k ≤ 191
          · have e1 : ¬ (byF l k : Int) < 128 := by omega
            have e2 : ¬ (191 : Int) < (byF l k : Int) := by omega
            go_wp2
            go_roundw
            case rel => exact sz_next rfl hkn hk1 HC.out q1 q2 (by omega)
            case measure => exact sz_less rfl hkn
          · have hz : Hid (szF l = 0) := by
              rw [HS.out]; unfold szG
              rw [if_neg (by rw [HL.out]; omega), if_neg (fun h => q2 (h k hkn hk1).2)]; exact rfl
            have e1 : ¬ (byF l k : Int) < 128 := by omega
            have e2 : (191 : Int) < (byF l k : Int) := by omega
            go_wp2
            go_ret
            exact ⟨by rw [hz.out]; rfl, rfl⟩
        · have hz : Hid (szF l = 0) := by
            rw [HS.out]; unfold szG
            rw [if_neg (by rw [HL.out]; omega), if_neg (fun h => q1 (h k hkn hk1).1)]; exact rfl
          have e1 : (byF l k : Int) < 128 := by omega
          go_wp2
          go_ret
          exact ⟨by rw [hz.out]; rfl, rfl⟩
      · obtain rfl : k = 3 := by omega
        have HZ : Hid (szF l = (if valF l 16 3 < 2048 ∨ 1114111 < valF l 16 3 ∨ (55296 ≤ valF l 16 3 ∧ valF l 16 3 ≤ 57343) then 0 else 3)) := by
          rw [HS.out]; unfold szG
          rw [if_neg (by rw [HL.out]; omega), if_pos hc]; exact rfl
        clear hc hkn hk hk1
        obtain ⟨v, hvv⟩ : ∃ v, v = valF l 16 3 := ⟨_, rfl⟩
        rw [← hvv] at HZ hv ⊢
        clear hvv
        by_cases q1 : v < 2048
        · have HQ := Lib.hid q1
          go_wp2
          go_ret
          exact ⟨by rw [HZ.out, if_pos (.inl HQ.out)]; rfl, rfl⟩
        · by_cases q2 : 1114111 < v
          · have HQ := Lib.hid q2
            go_wp2
            go_ret
            exact ⟨by rw [HZ.out, if_pos (.inr (.inl HQ.out))]; rfl, rfl⟩
          · by_cases q3 : 55296 ≤ v
            · by_cases q4 : v ≤ 57343
              · have HQ := Lib.hid (And.intro q3 q4)
                go_wp2
                all_goals go_ret
                all_goals exact ⟨by rw [HZ.out, if_pos (.inr (.inr HQ.out))]; rfl, rfl⟩
              · have HQ : Hid (¬ (v < 2048 ∨ 1114111 < v ∨ (55296 ≤ v ∧ v ≤ 57343))) := (by omega : ¬ (v < 2048 ∨ 1114111 < v ∨ (55296 ≤ v ∧ v ≤ 57343)))
                go_wp2
                go_ret
                exact ⟨by rw [HZ.out, if_neg HQ.out]; try rfl, rfl⟩
            · have HQ : Hid (¬ (v < 2048 ∨ 1114111 < v ∨ (55296 ≤ v ∧ v ≤ 57343))) := (by omega : ¬ (v < 2048 ∨ 1114111 < v ∨ (55296 ≤ v ∧ v ≤ 57343)))
              go_wp2
              all_goals go_ret
              all_goals exact ⟨by rw [HZ.out, if_neg HQ.out]; try rfl, rfl⟩
set_option maxHeartbeats 2000000 in
set_option maxRecDepth 100000 in
theorem size4 (s : ByteArray) (w : World) (hs : s.size ≤ 1000000) (hlo : 240 ≤ byF s.data.toList 0) (hhi : byF s.data.toList 0 < 245) (hp : 0 < s.size) :
    Calls Tryz.prog 71 #[.string s] w (SzPost s.data.toList w) := by
  obtain ⟨l, hl⟩ : ∃ l, l = s.data.toList := ⟨_, rfl⟩
  have hll : l.length = s.size := by rw [hl]; simp
  have hsz : szF l = szG l 4 8 65536 := by
    rw [← hl] at hlo hhi
    unfold szF
    rw [if_neg (by omega), if_neg (by omega), if_neg (by omega), if_pos (by omega)]
  have hb : ∀ j (h : j < s.size), ((s[j]).toNat : Int) = (byF l j : Int) := fun j h => by rw [hl, by_get s j h]
  rw [← hl] at hlo hhi ⊢
  have HS := Lib.hid hsz
  have HB := Lib.hid hb
  have HL := Lib.hid hll
  have h0 := hb 0 hp
  have hlo' : (240 : Int) ≤ (byF l 0 : Int) := by omega
  have hhi' : (byF l 0 : Int) < 245 := by omega
  have hm := and_mask (byF l 0) (8 - 1) (byF_lt l 0) (by omega)
  simp only [Nat.reduceSub, Nat.reduceAdd] at hm
  norm_cast at hm
  have HLo := Lib.hid (And.intro hlo hhi)
  clear hl hll hsz hb hlo hhi
  by_cases hlen : s.size < 4
  · have hz : Hid (szF l = 0) := by
      rw [HS.out]; unfold szG; rw [if_pos (by rw [HL.out]; exact hlen)]; exact rfl
    go_enter Tryz.func71, Tryz.ntmps71
    go_wp2
    go_ret
    exact ⟨by rw [hz.out]; rfl, rfl⟩
  · have hlen' : 4 ≤ s.size := by omega
    clear hlen
    go_enter Tryz.func71, Tryz.ntmps71
    go_wp2
    go_loopw [6, 7] (SzRel l 4 8 w) (fun _ i _ => 4 - (intOf i).toNat)
    case atStart => exact sz_start l 4 8 w (by omega) _ (by omega)
    case round =>
      obtain ⟨k, rfl, rfl, hk1, hk, hc, rfl⟩ := hrel
      have hv := val_lt l 8 (by omega) (by omega) k (by omega)
      by_cases hkn : k < 4
      · have hks : k < s.size := by omega
        have hbk := HB.out k hks
        have hbl := byF_lt l k
        have HC := Lib.hid hc
        clear hc
        by_cases q1 : 128 ≤ byF l k
        · by_cases q2 : byF l k ≤ 191
          · have e1 : ¬ (byF l k : Int) < 128 := by omega
            have e2 : ¬ (191 : Int) < (byF l k : Int) := by omega
            go_wp2
            go_roundw
            case rel => exact sz_next rfl hkn hk1 HC.out q1 q2 (by omega)
            case measure => exact sz_less rfl hkn
          · have hz : Hid (szF l = 0) := by
              rw [HS.out]; unfold szG
              rw [if_neg (by rw [HL.out]; omega), if_neg (fun h => q2 (h k hkn hk1).2)]; exact rfl
            have e1 : ¬ (byF l k : Int) < 128 := by omega
            have e2 : (191 : Int) < (byF l k : Int) := by omega
            go_wp2
            go_ret
            exact ⟨by rw [hz.out]; rfl, rfl⟩
        · have hz : Hid (szF l = 0) := by
            rw [HS.out]; unfold szG
            rw [if_neg (by rw [HL.out]; omega), if_neg (fun h => q1 (h k hkn hk1).1)]; exact rfl
          have e1 : (byF l k : Int) < 128 := by omega
          go_wp2
          go_ret
          exact ⟨by rw [hz.out]; rfl, rfl⟩
      · obtain rfl : k = 4 := by omega
        have HZ : Hid (szF l = (if valF l 8 4 < 65536 ∨ 1114111 < valF l 8 4 ∨ (55296 ≤ valF l 8 4 ∧ valF l 8 4 ≤ 57343) then 0 else 4)) := by
          rw [HS.out]; unfold szG
          rw [if_neg (by rw [HL.out]; omega), if_pos hc]; exact rfl
        clear hc hkn hk hk1
        obtain ⟨v, hvv⟩ : ∃ v, v = valF l 8 4 := ⟨_, rfl⟩
        rw [← hvv] at HZ hv ⊢
        clear hvv
        by_cases q1 : v < 65536
        · have HQ := Lib.hid q1
          go_wp2
          go_ret
          exact ⟨by rw [HZ.out, if_pos (.inl HQ.out)]; rfl, rfl⟩
        · by_cases q2 : 1114111 < v
          · have HQ := Lib.hid q2
            go_wp2
            go_ret
            exact ⟨by rw [HZ.out, if_pos (.inr (.inl HQ.out))]; rfl, rfl⟩
          · by_cases q3 : 55296 ≤ v
            · by_cases q4 : v ≤ 57343
              · have HQ := Lib.hid (And.intro q3 q4)
                go_wp2
                all_goals go_ret
                all_goals exact ⟨by rw [HZ.out, if_pos (.inr (.inr HQ.out))]; rfl, rfl⟩
              · have HQ : Hid (¬ (v < 65536 ∨ 1114111 < v ∨ (55296 ≤ v ∧ v ≤ 57343))) := (by omega : ¬ (v < 65536 ∨ 1114111 < v ∨ (55296 ≤ v ∧ v ≤ 57343)))
                go_wp2
                go_ret
                exact ⟨by rw [HZ.out, if_neg HQ.out]; try rfl, rfl⟩
            · have HQ : Hid (¬ (v < 65536 ∨ 1114111 < v ∨ (55296 ≤ v ∧ v ≤ 57343))) := (by omega : ¬ (v < 65536 ∨ 1114111 < v ∨ (55296 ≤ v ∧ v ≤ 57343)))
              go_wp2
              all_goals go_ret
              all_goals exact ⟨by rw [HZ.out, if_neg HQ.out]; try rfl, rfl⟩
set_option maxRecDepth 100000 in
theorem size_any (s : ByteArray) (w : World) (hs : s.size ≤ 1000000) (hp : 0 < s.size) : Calls Tryz.prog 71 #[.string s] w (SzPost s.data.toList w) := by
  by_cases c2 : 194 ≤ byF s.data.toList 0 ∧ byF s.data.toList 0 < 224
  · exact size2 s w hs c2.1 c2.2 hp
  · by_cases c3 : 224 ≤ byF s.data.toList 0 ∧ byF s.data.toList 0 < 240
    · exact size3 s w hs c3.1 c3.2 hp
    · by_cases c4 : 240 ≤ byF s.data.toList 0 ∧ byF s.data.toList 0 < 245
      · exact size4 s w hs c4.1 c4.2 hp
      · have h0 : ((s[0]).toNat : Int) = (byF s.data.toList 0 : Int) := by rw [by_get s 0 hp]
        obtain ⟨l, hl⟩ : ∃ l, l = s.data.toList := ⟨_, rfl⟩
        rw [← hl] at h0 c2 c3 c4 ⊢
        clear hl
        have hlt := byF_lt l 0
        by_cases c1 : byF l 0 < 128
        · have HZ : Hid (szF l = 1) := by unfold szF; rw [if_pos c1]; exact rfl
          go_enter Tryz.func71, Tryz.ntmps71
          go_wp2
          go_ret
          exact ⟨by rw [HZ.out]; rfl, rfl⟩
        · have HZ : Hid (szF l = 0) := by unfold szF; rw [if_neg c1, if_neg c2, if_neg c3, if_neg c4]; exact rfl
          by_cases k1 : byF l 0 < 194
          · go_enter Tryz.func71, Tryz.ntmps71
            go_wp2
            go_ret
            exact ⟨by rw [HZ.out]; rfl, rfl⟩
          · have k2 : 245 ≤ byF l 0 := by omega
            clear k1 c1 c2 c3 c4
            go_enter Tryz.func71, Tryz.ntmps71
            go_wp2
            go_ret
            exact ⟨by rw [HZ.out]; rfl, rfl⟩
end Go.Proofs.YtcnpkijjnbhagaaGreatDoor
