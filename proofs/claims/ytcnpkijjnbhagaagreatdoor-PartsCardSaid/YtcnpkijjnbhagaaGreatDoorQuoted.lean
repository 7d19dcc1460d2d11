/- The function lex.quoted, walked: it returns what qF says. -/
import Derived.Test.YtcnpkijjnbhagaaGreatDoorLex
import Derived.Test.YtcnpkijjnbhagaaGreatDoorChecked
import Derived.WalkKit
import Derived.WalkSpells
import Derived.WalkLawsBesides
import Derived.WalkMore
import Derived.ScopeJumps
import Derived.Lib.Hide
namespace Go.Proofs.YtcnpkijjnbhagaaGreatDoor
open Go.RowKit

/-- What the call answers. -/
def QPost (s : ByteArray) (w : World) (e : Ending) (w' : World) : Prop :=
  e = .returned (.tuple #[.int .i64 (qF (s.data.toList.drop 1) 1).1, .int .i64 (qF (s.data.toList.drop 1) 1).2]) ∧ w' = w
/-- What holds at the label. -/
def QRel (s : ByteArray) (k : Nat) : Prop := qF (s.data.toList.drop k) k = qF (s.data.toList.drop 1) 1 ∧ 1 ≤ k ∧ k ≤ s.size + 1

theorem drop_cons (s : ByteArray) (k : Nat) (h : k < s.size) : s.data.toList.drop k = s[k] :: s.data.toList.drop (k + 1) := by
  rw [List.drop_eq_getElem_cons (by simpa using h)]; rfl
theorem byte_eq {a : UInt8} {n : Nat} (hn : n < 256) (h : ((a.toNat : Int) == (n : Int)) = true) : a = UInt8.ofNat n := by
  have h1 : (a.toNat : Int) = n := by simpa using h
  apply UInt8.toNat_inj.1
  simp only [UInt8.toNat_ofNat', Nat.reducePow]
  omega
theorem byte_ne {a : UInt8} {n : Nat} (hn : n < 256) (h : ¬ (a.toNat : Int) = (n : Int)) : a ≠ UInt8.ofNat n := fun e => h (by
  subst e
  simp only [UInt8.toNat_ofNat', Nat.reducePow]
  omega)
theorem q_one (s : ByteArray) : QRel s 1 := ⟨rfl, Nat.le_refl _, by omega⟩
theorem q_end (s : ByteArray) (k : Nat) (w : World) (h : QRel s k) (hk : s.size ≤ k) : QPost s w (.returned (.tuple #[.int .i64 k, .int .i64 k])) w := by
  obtain ⟨h, _, _⟩ := h
  rw [List.drop_eq_nil_of_le (by simpa using hk)] at h
  simp only [qF] at h
  exact ⟨by rw [← h], rfl⟩
theorem q_nl (s : ByteArray) (k : Nat) (w : World) (h : QRel s k) (hk : k < s.size) (hc : ((s[k].toNat : Int) == 10) = true) : QPost s w (.returned (.tuple #[.int .i64 k, .int .i64 k])) w := by
  obtain ⟨h, _, _⟩ := h
  have hc' : s[k] = 10 := byte_eq (n := 10) (by decide) hc
  rw [drop_cons s k hk, hc', qF_nl] at h
  exact ⟨by rw [← h], rfl⟩
theorem q_quote (s : ByteArray) (k : Nat) (w : World) (h : QRel s k) (hk : k < s.size) (hc : ((s[k].toNat : Int) == 34) = true) : QPost s w (.returned (.tuple #[.int .i64 ((k : Int) + 1), .int .i64 k])) w := by
  obtain ⟨h, _, _⟩ := h
  have hc' : s[k] = 34 := byte_eq (n := 34) (by decide) hc
  rw [drop_cons s k hk, hc', qF_quote] at h
  exact ⟨by rw [← h]; rfl, rfl⟩
theorem q_esc (s : ByteArray) (k : Nat) (h : QRel s k) (hk : k + 1 < s.size) (hc : (s[k].toNat : Int) = 92) (hd : ((s[k + 1].toNat : Int) != 10) = true) : QRel s (k + 2) := by
  obtain ⟨h, _, _⟩ := h
  have hc' : s[k] = 92 := byte_eq (n := 92) (by decide) (by simpa using hc)
  have hd' : s[k + 1] ≠ 10 := byte_ne (n := 10) (by decide) (by simpa using hd)
  rw [drop_cons s k (by omega), drop_cons s (k + 1) hk, hc', qF_esc _ _ _ hd'] at h
  exact ⟨h, by omega, by omega⟩
theorem q_step (s : ByteArray) (k : Nat) (h : QRel s k) (hk : k < s.size) (h1 : ((s[k].toNat : Int) == 10) = false) (h2 : ((s[k].toNat : Int) == 34) = false)
    (h3 : (s[k].toNat : Int) = 92 → k + 1 < s.size → ∃ hh : k + 1 < s.size, ((s[k + 1].toNat : Int) != 10) = false) : QRel s (k + 1) := by
  obtain ⟨h, _, _⟩ := h
  have h1' : s[k] ≠ 10 := byte_ne (n := 10) (by decide) (by simpa using h1)
  have h2' : s[k] ≠ 34 := byte_ne (n := 34) (by decide) (by simpa using h2)
  rw [drop_cons s k hk, qF_one _ _ _ h1' h2'] at h
  · exact ⟨h, by omega, by omega⟩
  · intro e
    by_cases hk1 : k + 1 < s.size
    · obtain ⟨_, hd⟩ := h3 (by rw [e]; rfl) hk1
      right
      have hd' : s[k + 1] = 10 := byte_eq (n := 10) (by decide) (by simpa using hd)
      exact ⟨_, by rw [drop_cons s (k + 1) hk1, hd']⟩
    · left; exact List.drop_eq_nil_of_le (by simp; omega)

/-- What holds at every jump back: the frame whole. -/
def QInv (s : ByteArray) (w : World) (a' : Act) (w' : World) : Prop :=
  w' = w ∧ ∃ (k : Nat) (u5 u6 u7 u8 u9 u10 u11 u12 u13 u14 u15 u16 u17 u18 u19 u20 u21 u22 u23 u24 u25 u26 u27 u28 u29 u30 u31 u32 u33 u34 u35 u36 u37 u38 u39 u40 u41 u42 u43 u44 u45 u46 u47 : Value), a' = { tmps := #[.string s, undef, .int .i64 0, .int .i64 0, .int .i64 k, u5, u6, u7, u8, u9, u10, u11, u12, u13, u14, u15, u16, u17, u18, u19, u20, u21, u22, u23, u24, u25, u26, u27, u28, u29, u30, u31, u32, u33, u34, u35, u36, u37, u38, u39, u40, u41, u42, u43, u44, u45, u46, u47], defers := [] } ∧ QRel s k
def qMu (s : ByteArray) (a' : Act) (_ : World) : Nat := s.size + 2 - (intOf (a'.tmps.getD 4 undef)).toNat
theorem num2 (k : Nat) : (Value.int .i64 ((k : Int) + 1 + 1)) = .int .i64 ((k + 2 : Nat) : Int) := by congr 1
theorem num1 (k : Nat) : (Value.int .i64 ((k : Int) + 1)) = .int .i64 ((k + 1 : Nat) : Int) := rfl
theorem q_back (s : ByteArray) (w : World) (k m : Nat) (v : Value) (hv : v = .int .i64 (m : Int)) (d : List Deferred) (hd : d = []) (u1 u2 u3 : Value) (e1 : u1 = undef) (e2 : u2 = .int .i64 0) (e3 : u3 = .int .i64 0) (u5 u6 u7 u8 u9 u10 u11 u12 u13 u14 u15 u16 u17 u18 u19 u20 u21 u22 u23 u24 u25 u26 u27 u28 u29 u30 u31 u32 u33 u34 u35 u36 u37 u38 u39 u40 u41 u42 u43 u44 u45 u46 u47 : Value) (h : QRel s m) (hlt : k < m) (hk : k ≤ s.size + 1) :
    QInv s w { tmps := #[.string s, u1, u2, u3, v, u5, u6, u7, u8, u9, u10, u11, u12, u13, u14, u15, u16, u17, u18, u19, u20, u21, u22, u23, u24, u25, u26, u27, u28, u29, u30, u31, u32, u33, u34, u35, u36, u37, u38, u39, u40, u41, u42, u43, u44, u45, u46, u47], defers := d } w ∧ qMu s { tmps := #[.string s, u1, u2, u3, v, u5, u6, u7, u8, u9, u10, u11, u12, u13, u14, u15, u16, u17, u18, u19, u20, u21, u22, u23, u24, u25, u26, u27, u28, u29, u30, u31, u32, u33, u34, u35, u36, u37, u38, u39, u40, u41, u42, u43, u44, u45, u46, u47], defers := d } w < s.size + 2 - (intOf (.int .i64 (k : Int))).toNat := by
  subst hv; subst hd; subst e1; subst e2; subst e3
  have := h.2.2
  refine ⟨⟨rfl, m, _, _, _, _, _, _, _, _, _, _, _, _, _, _, _, _, _, _, _, _, _, _, _, _, _, _, _, _, _, _, _, _, _, _, _, _, _, _, _, _, _, _, _, rfl, h⟩, ?_⟩
  show s.size + 2 - (intOf (.int .i64 (m : Int))).toNat < _
  simp only [intOf, Int.toNat_natCast]
  omega

set_option maxHeartbeats 2000000 in
set_option maxRecDepth 100000 in
theorem quoted_any (s : ByteArray) (w : World) (hs : s.size ≤ 1000000) : Calls Tryz.prog 135 #[.string s] w (QPost s w) := by
  go_enter Tryz.func135, Tryz.ntmps135
  go_wp2
  refine wp_scope_jumps 0 (QInv s w) (qMu s) rfl ?_ ?_
  · go_wp2
    go_step3
    by_cases hlt : 1 < s.size
    · have hq := q_one s
      go_wp2
      all_goals first
        | (simp only [Exit.jump]
           go_ret2
           first
             | (rcases (by assumption : (s.size : Int) ≤ 1 ∨ ((s[1].toNat : Int) == 10) = true) with h | h
                · exact q_end s 1 w hq (by omega)
                · exact q_nl s 1 w hq hlt h)
             | exact q_quote s 1 w hq hlt (by assumption))
        | (go_step3
           obtain ⟨_, h10⟩ : (1 : Int) < s.size ∧ ((s[1].toNat : Int) == 10) = false := by assumption
           have h34 : ((s[1].toNat : Int) == 34) = false := by assumption
           first
             | (have h92 : (s[1].toNat : Int) = 92 := by assumption
                have hl2 : (2 : Int) < s.size := by assumption
                have hd : ((s[2].toNat : Int) != 10) = true := by assumption
                exact ⟨rfl, (q_back s w 1 3 _ rfl _ rfl _ _ _ rfl rfl rfl _ _ _ _ _ _ _ _ _ _ _ _ _ _ _ _ _ _ _ _ _ _ _ _ _ _ _ _ _ _ _ _ _ _ _ _ _ _ _ _ _ _ _ (q_esc s 1 hq (by omega) h92 hd) (by omega) (by omega)).1⟩)
             | exact ⟨rfl, (q_back s w 1 2 _ rfl _ rfl _ _ _ rfl rfl rfl _ _ _ _ _ _ _ _ _ _ _ _ _ _ _ _ _ _ _ _ _ _ _ _ _ _ _ _ _ _ _ _ _ _ _ _ _ _ _ _ _ _ _ (q_step s 1 hq hlt h10 h34 (fun a b => by first | exact ⟨b, by assumption⟩ | (exfalso; omega))) (by omega) (by omega)).1⟩)
    · go_wp2
      simp only [Exit.jump]
      go_ret2
      exact q_end s 1 w (q_one s) (by omega)
  · rintro a' w' ⟨rfl, k, u5, u6, u7, u8, u9, u10, u11, u12, u13, u14, u15, u16, u17, u18, u19, u20, u21, u22, u23, u24, u25, u26, u27, u28, u29, u30, u31, u32, u33, u34, u35, u36, u37, u38, u39, u40, u41, u42, u43, u44, u45, u46, u47, rfl, hq⟩
    have hb : k ≤ s.size + 1 := hq.2.2
    by_cases hlt : k < s.size
    · go_wp2
      all_goals first
        | (simp only [Exit.jump]
           go_ret2
           first
             | (rcases (by assumption : s.size ≤ k ∨ ((s[k].toNat : Int) == 10) = true) with h | h
                · exact q_end s k w' hq (by omega)
                · exact q_nl s k w' hq hlt h)
             | exact q_quote s k w' hq hlt (by assumption))
        | (go_step3
           obtain ⟨_, h10⟩ : ¬ s.size ≤ k ∧ ((s[k].toNat : Int) == 10) = false := by assumption
           have h34 : ((s[k].toNat : Int) == 34) = false := by assumption
           first
             | (have h92 : (s[k].toNat : Int) = 92 := by assumption
                have hl2 : (k : Int) + 1 < s.size := by assumption
                have hd : ((s[k + 1].toNat : Int) != 10) = true := by assumption
                exact ⟨rfl, (q_back s w' k (k + 2) _ (num2 k) _ rfl _ _ _ rfl rfl rfl _ _ _ _ _ _ _ _ _ _ _ _ _ _ _ _ _ _ _ _ _ _ _ _ _ _ _ _ _ _ _ _ _ _ _ _ _ _ _ _ _ _ _ (q_esc s k hq (by omega) h92 hd) (by omega) (by omega))⟩)
             | exact ⟨rfl, (q_back s w' k (k + 1) _ (num1 k) _ rfl _ _ _ rfl rfl rfl _ _ _ _ _ _ _ _ _ _ _ _ _ _ _ _ _ _ _ _ _ _ _ _ _ _ _ _ _ _ _ _ _ _ _ _ _ _ _ _ _ _ _ (q_step s k hq hlt h10 h34 (fun a b => by first | exact ⟨b, by assumption⟩ | (exfalso; omega))) (by omega) (by omega))⟩)
    · go_wp2
      simp only [Exit.jump]
      go_ret2
      exact q_end s k w' hq (by omega)
end Go.Proofs.YtcnpkijjnbhagaaGreatDoor
