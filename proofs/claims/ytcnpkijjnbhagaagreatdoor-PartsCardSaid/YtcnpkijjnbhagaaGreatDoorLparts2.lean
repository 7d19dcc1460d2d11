/- The law's check of one text's parts, walked (2). -/
import Derived.Test.YtcnpkijjnbhagaaGreatDoorLparts
namespace Go.Proofs.YtcnpkijjnbhagaaGreatDoor
open Go.RowKit

theorem evF_zero {kd bd en f st ln bg : Nat} {x : Pt} (h : x ∈ evF kd bd en f st ln bg) (h0 : x.kd = 0) : x.bd = x.en := by
  unfold evF at h
  split at h
  · simp only [List.mem_cons, List.not_mem_nil, or_false] at h
    subst h
    simp only at h0
    simp [h0]
  · simp at h
theorem tellF_zero (l : List UInt8) (kd t bd en : Nat) : ∀ (n f ln bg : Nat), t - f ≤ n → f ≤ t → ∀ x ∈ (tellF l kd f t bd en ln bg).1, x.kd = 0 → x.bd = x.en
  | n, f, ln, bg, hn, hft => by
    by_cases hf : f < t
    · have h1 := stopF_ge l f t
      have h2 := stopF_le l f t hft
      by_cases hst : stopF l f t < t
      · rw [tellF_more l kd f t bd en ln bg hf hst]
        match n, hn with
        | n + 1, hn =>
          have ih := tellF_zero l kd t bd en n (stopF l f t + 1) (ln + 1) (stopF l f t + 1) (by omega) (by omega)
          intro x hx h0
          rcases List.mem_append.1 hx with h | h
          · exact evF_zero h h0
          · exact ih x h h0
        | 0, hn => omega
      · rw [tellF_last l kd f t bd en ln bg hf hst]
        intro x hx h0
        exact evF_zero hx h0
    · rw [tellF_done l kd f t bd en ln bg hf]
      intro x hx
      simp at hx
termination_by n => n
theorem eachF_zero (l : List UInt8) : ∀ (n p c ln bg : Nat), l.length - p ≤ n → c ≤ p → p ≤ l.length → ∀ x ∈ eachF l p c ln bg, x.kd = 0 → x.bd = x.en
  | n, p, c, ln, bg, hn, hcp, hpl => by
    have h1 := tellF_zero l 0 p p p _ c ln bg (Nat.le_refl _) hcp
    by_cases hp : p < l.length
    · match n, hn with
      | 0, hn => omega
      | n + 1, hn =>
        by_cases h0 : (tokF (l.drop p)).1 = 0
        · rw [eachF_code l p c ln bg hp h0]
          exact eachF_zero l n (p + 1) c ln bg (by omega) (by omega) (by omega)
        · obtain ⟨kd, sz, bd, en, hk⟩ : ∃ kd sz bd en, tokF (l.drop p) = (kd, sz, bd, en) := ⟨_, _, _, _, rfl⟩
          have hs := tokF_size (l.drop p)
          have hl := tokF_le (l.drop p) (by intro h; have := congrArg List.length h; simp at this; omega)
          rw [hk] at hs hl
          simp at hs hl
          rw [eachF_tok l p c ln bg hp h0 kd sz bd en hk]
          have h2 := tellF_zero l kd (p + sz) (p + bd) (p + en) _ p (tellF l 0 c p p p ln bg).2.1 (tellF l 0 c p p p ln bg).2.2 (Nat.le_refl _) (by omega)
          have h3 := eachF_zero l n (p + sz) (p + sz) (tellF l kd p (p + sz) (p + bd) (p + en) (tellF l 0 c p p p ln bg).2.1 (tellF l 0 c p p p ln bg).2.2).2.1 (tellF l kd p (p + sz) (p + bd) (p + en) (tellF l 0 c p p p ln bg).2.1 (tellF l 0 c p p p ln bg).2.2).2.2 (by omega) (Nat.le_refl _) (by omega)
          intro x hx h0
          rcases List.mem_append.1 hx with h | h
          · rcases List.mem_append.1 h with h | h
            · exact h1 x h h0
            · exact h2 x h h0
          · exact h3 x h h0
    · rw [eachF_end l p c ln bg hp]
      exact h1
termination_by n => n
theorem parts_zero (s : ByteArray) (x : Pt) (h : x ∈ partsOf s) (h0 : x.kd = 0) : x.bd = x.en := by
  unfold partsOf at h
  split at h
  · exact eachF_zero s.data.toList _ 0 0 0 0 (Nat.le_refl _) (Nat.le_refl _) (Nat.zero_le _) x h h0
  · simp at h
theorem lp_next {n k j : Nat} {W wr : World} {o : Obj} (hB : Below W.heap.size W wr) (hk : k < n) : LpRel n W (.int .i64 ((k : Int) + 1)) ((wr.alloc o).drewN j) := by
  have h := hB.alloc hB.size o
  exact ⟨k + 1, rfl, hk, ⟨h.os, h.tape, h.output, h.size, h.block⟩⟩

set_option maxHeartbeats 2000000 in
set_option maxRecDepth 100000 in
theorem lparts_cut (kd m : Int) (n n0 : Nat) (s : ByteArray) (E : Value) (W : World) (A P : List Pt) (hnn : n < n0) (hnp : 0 < n) (h6 : n0 ≤ 600)
    (HR : Hid (∀ w : World, Calls Tryz.prog 28 #[.string s] w fun e w' => ∃ o c, e = .returned (.slice o n0 c) ∧ n0 ≤ c ∧ w'.ownsRow w.heap.size 56 6 (.slice o n0 c) n0 (A.flatMap rpc) ∧ Below w.heap.size w w'))
    (HP : Hid (∀ W : World, W.cell? ⟨8, 0, none⟩ = some (.int .i64 m) → Calls Tryz.prog 29 #[.string s, .int .i64 n] W fun e w' => ∃ o1 c1 o2 c2, e = .returned (.tuple #[.slice o1 n c1, .slice o2 n c2]) ∧
      w'.ownsRow (W.heap.size + 9) 3 1 (.slice o1 n c1) n (P.map lnv) ∧ w'.ownsRow (W.heap.size + 9) 58 5 (.slice o2 n c2) n (P.flatMap ptc) ∧ Below W.heap.size W w'))
    (HZ : Hid (∀ (k : Nat) (x : Pt), P[k]? = some x → x.kd = 0 → x.bd = x.en)) (HPre : Hid (P <+: A)) (HN0 : Hid (n0 = A.length)) (HN : Hid (n = P.length)) (HM : Hid (W.cell? ⟨8, 0, none⟩ = some (.int .i64 m))) :
    Calls Tryz.prog 15 #[.agg #[.int .i64 kd, .int .i64 n, .string s, E]] W (LBPost W) := by
  have hMs : 8 < W.heap.size := World.block_lt_of_cell? W ⟨8, 0, none⟩ HM.out
  go_enter Tryz.func15, Tryz.ntmps15
  go_wp2_with (first | (go_at_call 28; refine (HR.out _).mono ?_; rintro e w2 ⟨o, c, rfl, hcap, hor, hB2⟩; have x1 := hB2.cell (p := ⟨W.heap.size, 1, none⟩) (by simp); have x2 := hB2.cell (p := ⟨W.heap.size, 2, none⟩) (by simp); simp at x1 x2; have HM2 := Lib.hid ((hB2.cell (p := ⟨8, 0, none⟩) (by simp; omega)).trans ((World.cell?_alloc_lt W _ ⟨8, 0, none⟩ hMs).trans HM.out))) | (go_at_call 29; refine (HP.out _ HM2.out).mono ?_; rintro e WB ⟨o1, c1, o2, c2, rfl, h1, h2, hB3⟩; have HL := Lib.hid (lies3 HN0.out HN.out HPre.out (own_below hor hB3 rfl) h1 h2); clear h1 h2))
  have hBB := (((Below.refl W.heap.size W).alloc (Nat.le_refl _) (.cells #[Value.int .i64 kd, .int .i64 n, .string s, E] 27)).trans (hB2.mono (by simp))).trans (hB3.mono (Nat.le_trans (by simp) hB2.size))
  go_loopw [6] (LpRel n WB) (fun i _ => n - (intOf i).toNat)
  case atStart => exact ⟨0, rfl, Nat.zero_le _, Below.refl _ _⟩
  case round =>
    clear x1 x2 hor
    obtain ⟨k, rfl, hk, hB⟩ := hrel
    by_cases hkn : k < n
    · obtain ⟨g, g1, g2, x, rfl, rfl, rfl, hx, l1, r0, r1, r2, r3, r4, r5, p0, p1, p2, p3, p4⟩ := HL.out k hkn
      have hzz := HZ.out k x hx
      have kc := fun (p : Addr) (u : Value) (h : WB.cell? p = some u) => (hB.cell (World.block_lt_of_cell? WB p h)).trans h
      have q0 := kc _ _ r0
      have q1 := kc _ _ r1
      have q2 := kc _ _ r2
      have q3 := kc _ _ r3
      have q4 := kc _ _ r4
      have q5 := kc _ _ r5
      have n1 := kc _ _ l1
      have o0 := kc _ _ p0
      have o1 := kc _ _ p1
      have o2 := kc _ _ p2
      have o3 := kc _ _ p3
      have o4 := kc _ _ p4
      clear kc r0 r1 r2 r3 r4 r5 l1 p0 p1 p2 p3 p4 hx
      obtain ⟨xl, xk, xf, xt, xb, xe⟩ := x
      simp only at q0 q1 q2 q3 q4 q5 n1 o0 o1 o2 o3 o4 hzz
      have t0 : g < wr.heap.size := World.block_lt_of_cell? wr ⟨g, k * 6, none⟩ q0
      have t1 : g1 < wr.heap.size := World.block_lt_of_cell? wr ⟨g1, k, none⟩ n1
      have t2 : g2 < wr.heap.size := World.block_lt_of_cell? wr ⟨g2, k * 5, none⟩ o0
      by_cases hk0 : 0 < xk
      · clear hzz
        have d0 : decide (0 < (xk : Int)) = true := decide_eq_true (by omega)
        have d1 : ((xk : Int) == 0) = false := by simp; omega
        go_wp2
        go_quiet (fail)
        go_wp2
        go_quiet (fail)
        go_wp2
        go_quiet (fail)
        go_wp2
        go_roundw
        case rel => exact lp_next hB hkn
        case measure => simp [intOf]; omega
      · have hz : xk = 0 := by omega
        have hbe := hzz hz
        subst hbe
        have q1z : wr.cell? ⟨g, k * 6 + 1, none⟩ = some (.int .i64 0) := by rw [q1, hz]; rfl
        have o0z : wr.cell? ⟨g2, k * 5, none⟩ = some (.int .i64 0) := by rw [o0, hz]; rfl
        clear hzz hz hk0 q1 o0
        go_wp2
        go_quiet (fail)
        go_wp2
        go_quiet (fail)
        go_wp2
        go_quiet (fail)
        go_wp2
        go_roundw
        case rel => exact lp_next hB hkn
        case measure => simp [intOf]; omega
    · clear hk
      go_wp2
      go_ret
      exact ⟨rfl, hBB.trans (hB.mono hBB.size)⟩


set_option maxHeartbeats 2000000 in
set_option maxRecDepth 100000 in
theorem lparts_neg (kd m a : Int) (n : Nat) (s : ByteArray) (E : Value) (W : World) (P : List Pt) (ha : a ≤ 0) (h6 : n ≤ 600)
    (HR : Hid (∀ w : World, Calls Tryz.prog 28 #[.string s] w fun e w' => ∃ o c, e = .returned (.slice o n c) ∧ n ≤ c ∧ w'.ownsRow w.heap.size 56 6 (.slice o n c) n (P.flatMap rpc) ∧ Below w.heap.size w w'))
    (HP : Hid (∀ W : World, W.cell? ⟨8, 0, none⟩ = some (.int .i64 m) → Calls Tryz.prog 29 #[.string s, .int .i64 a] W fun e w' => ∃ o1 c1 o2 c2, e = .returned (.tuple #[.slice o1 n c1, .slice o2 n c2]) ∧
      w'.ownsRow (W.heap.size + 9) 3 1 (.slice o1 n c1) n (P.map lnv) ∧ w'.ownsRow (W.heap.size + 9) 58 5 (.slice o2 n c2) n (P.flatMap ptc) ∧ Below W.heap.size W w'))
    (HZ : Hid (∀ (k : Nat) (x : Pt), P[k]? = some x → x.kd = 0 → x.bd = x.en)) (HN : Hid (n = P.length)) (HM : Hid (W.cell? ⟨8, 0, none⟩ = some (.int .i64 m))) :
    Calls Tryz.prog 15 #[.agg #[.int .i64 kd, .int .i64 a, .string s, E]] W (LBPost W) := by
  have hMs : 8 < W.heap.size := World.block_lt_of_cell? W ⟨8, 0, none⟩ HM.out
  go_enter Tryz.func15, Tryz.ntmps15
  go_wp2_with (first | (go_at_call 28; refine (HR.out _).mono ?_; rintro e w2 ⟨o, c, rfl, hcap, hor, hB2⟩; have x1 := hB2.cell (p := ⟨W.heap.size, 1, none⟩) (by simp); have x2 := hB2.cell (p := ⟨W.heap.size, 2, none⟩) (by simp); simp at x1 x2; have HM2 := Lib.hid ((hB2.cell (p := ⟨8, 0, none⟩) (by simp; omega)).trans ((World.cell?_alloc_lt W _ ⟨8, 0, none⟩ hMs).trans HM.out))) | (go_at_call 29; refine (HP.out _ HM2.out).mono ?_; rintro e WB ⟨o1, c1, o2, c2, rfl, h1, h2, hB3⟩; have HL := Lib.hid (lies3 HN.out HN.out (List.prefix_refl _) (own_below hor hB3 rfl) h1 h2); clear h1 h2))
  have hBB := (((Below.refl W.heap.size W).alloc (Nat.le_refl _) (.cells #[Value.int .i64 kd, .int .i64 a, .string s, E] 27)).trans (hB2.mono (by simp))).trans (hB3.mono (Nat.le_trans (by simp) hB2.size))
  go_loopw [6] (LpRel n WB) (fun i _ => n - (intOf i).toNat)
  case atStart => exact ⟨0, rfl, Nat.zero_le _, Below.refl _ _⟩
  case round =>
    clear x1 x2 hor
    obtain ⟨k, rfl, hk, hB⟩ := hrel
    by_cases hkn : k < n
    · obtain ⟨g, g1, g2, x, rfl, rfl, rfl, hx, l1, r0, r1, r2, r3, r4, r5, p0, p1, p2, p3, p4⟩ := HL.out k hkn
      have hzz := HZ.out k x hx
      have kc := fun (p : Addr) (u : Value) (h : WB.cell? p = some u) => (hB.cell (World.block_lt_of_cell? WB p h)).trans h
      have q0 := kc _ _ r0
      have q1 := kc _ _ r1
      have q2 := kc _ _ r2
      have q3 := kc _ _ r3
      have q4 := kc _ _ r4
      have q5 := kc _ _ r5
      have n1 := kc _ _ l1
      have o0 := kc _ _ p0
      have o1 := kc _ _ p1
      have o2 := kc _ _ p2
      have o3 := kc _ _ p3
      have o4 := kc _ _ p4
      clear kc r0 r1 r2 r3 r4 r5 l1 p0 p1 p2 p3 p4 hx
      obtain ⟨xl, xk, xf, xt, xb, xe⟩ := x
      simp only at q0 q1 q2 q3 q4 q5 n1 o0 o1 o2 o3 o4 hzz
      have t0 : g < wr.heap.size := World.block_lt_of_cell? wr ⟨g, k * 6, none⟩ q0
      have t1 : g1 < wr.heap.size := World.block_lt_of_cell? wr ⟨g1, k, none⟩ n1
      have t2 : g2 < wr.heap.size := World.block_lt_of_cell? wr ⟨g2, k * 5, none⟩ o0
      by_cases hk0 : 0 < xk
      · clear hzz
        have d0 : decide (0 < (xk : Int)) = true := decide_eq_true (by omega)
        have d1 : ((xk : Int) == 0) = false := by simp; omega
        go_wp2
        go_quiet (fail)
        go_wp2
        go_quiet (fail)
        go_wp2
        go_quiet (fail)
        go_wp2
        go_roundw
        case rel => exact lp_next hB hkn
        case measure => simp [intOf]; omega
      · have hz : xk = 0 := by omega
        have hbe := hzz hz
        subst hbe
        have q1z : wr.cell? ⟨g, k * 6 + 1, none⟩ = some (.int .i64 0) := by rw [q1, hz]; rfl
        have o0z : wr.cell? ⟨g2, k * 5, none⟩ = some (.int .i64 0) := by rw [o0, hz]; rfl
        clear hzz hz hk0 q1 o0
        go_wp2
        go_quiet (fail)
        go_wp2
        go_quiet (fail)
        go_wp2
        go_quiet (fail)
        go_wp2
        go_roundw
        case rel => exact lp_next hB hkn
        case measure => simp [intOf]; omega
    · clear hk
      go_wp2
      go_ret
      exact ⟨rfl, hBB.trans (hB.mono hBB.size)⟩


set_option maxHeartbeats 2000000 in
set_option maxRecDepth 100000 in
theorem lparts_far (kd m a : Int) (n : Nat) (s : ByteArray) (E : Value) (W : World) (P : List Pt) (ha : 0 < a) (han : (n : Int) ≤ a) (h6 : n ≤ 600)
    (HR : Hid (∀ w : World, Calls Tryz.prog 28 #[.string s] w fun e w' => ∃ o c, e = .returned (.slice o n c) ∧ n ≤ c ∧ w'.ownsRow w.heap.size 56 6 (.slice o n c) n (P.flatMap rpc) ∧ Below w.heap.size w w'))
    (HP : Hid (∀ W : World, W.cell? ⟨8, 0, none⟩ = some (.int .i64 m) → Calls Tryz.prog 29 #[.string s, .int .i64 a] W fun e w' => ∃ o1 c1 o2 c2, e = .returned (.tuple #[.slice o1 n c1, .slice o2 n c2]) ∧
      w'.ownsRow (W.heap.size + 9) 3 1 (.slice o1 n c1) n (P.map lnv) ∧ w'.ownsRow (W.heap.size + 9) 58 5 (.slice o2 n c2) n (P.flatMap ptc) ∧ Below W.heap.size W w'))
    (HZ : Hid (∀ (k : Nat) (x : Pt), P[k]? = some x → x.kd = 0 → x.bd = x.en)) (HN : Hid (n = P.length)) (HM : Hid (W.cell? ⟨8, 0, none⟩ = some (.int .i64 m))) :
    Calls Tryz.prog 15 #[.agg #[.int .i64 kd, .int .i64 a, .string s, E]] W (LBPost W) := by
  have hMs : 8 < W.heap.size := World.block_lt_of_cell? W ⟨8, 0, none⟩ HM.out
  go_enter Tryz.func15, Tryz.ntmps15
  go_wp2_with (first | (go_at_call 28; refine (HR.out _).mono ?_; rintro e w2 ⟨o, c, rfl, hcap, hor, hB2⟩; have x1 := hB2.cell (p := ⟨W.heap.size, 1, none⟩) (by simp); have x2 := hB2.cell (p := ⟨W.heap.size, 2, none⟩) (by simp); simp at x1 x2; have HM2 := Lib.hid ((hB2.cell (p := ⟨8, 0, none⟩) (by simp; omega)).trans ((World.cell?_alloc_lt W _ ⟨8, 0, none⟩ hMs).trans HM.out))) | (go_at_call 29; refine (HP.out _ HM2.out).mono ?_; rintro e WB ⟨o1, c1, o2, c2, rfl, h1, h2, hB3⟩; have HL := Lib.hid (lies3 HN.out HN.out (List.prefix_refl _) (own_below hor hB3 rfl) h1 h2); clear h1 h2))
  have hBB := (((Below.refl W.heap.size W).alloc (Nat.le_refl _) (.cells #[Value.int .i64 kd, .int .i64 a, .string s, E] 27)).trans (hB2.mono (by simp))).trans (hB3.mono (Nat.le_trans (by simp) hB2.size))
  go_loopw [6] (LpRel n WB) (fun i _ => n - (intOf i).toNat)
  case atStart => exact ⟨0, rfl, Nat.zero_le _, Below.refl _ _⟩
  case round =>
    clear x1 x2 hor
    obtain ⟨k, rfl, hk, hB⟩ := hrel
    by_cases hkn : k < n
    · obtain ⟨g, g1, g2, x, rfl, rfl, rfl, hx, l1, r0, r1, r2, r3, r4, r5, p0, p1, p2, p3, p4⟩ := HL.out k hkn
      have hzz := HZ.out k x hx
      have kc := fun (p : Addr) (u : Value) (h : WB.cell? p = some u) => (hB.cell (World.block_lt_of_cell? WB p h)).trans h
      have q0 := kc _ _ r0
      have q1 := kc _ _ r1
      have q2 := kc _ _ r2
      have q3 := kc _ _ r3
      have q4 := kc _ _ r4
      have q5 := kc _ _ r5
      have n1 := kc _ _ l1
      have o0 := kc _ _ p0
      have o1 := kc _ _ p1
      have o2 := kc _ _ p2
      have o3 := kc _ _ p3
      have o4 := kc _ _ p4
      clear kc r0 r1 r2 r3 r4 r5 l1 p0 p1 p2 p3 p4 hx
      obtain ⟨xl, xk, xf, xt, xb, xe⟩ := x
      simp only at q0 q1 q2 q3 q4 q5 n1 o0 o1 o2 o3 o4 hzz
      have t0 : g < wr.heap.size := World.block_lt_of_cell? wr ⟨g, k * 6, none⟩ q0
      have t1 : g1 < wr.heap.size := World.block_lt_of_cell? wr ⟨g1, k, none⟩ n1
      have t2 : g2 < wr.heap.size := World.block_lt_of_cell? wr ⟨g2, k * 5, none⟩ o0
      by_cases hk0 : 0 < xk
      · clear hzz
        have d0 : decide (0 < (xk : Int)) = true := decide_eq_true (by omega)
        have d1 : ((xk : Int) == 0) = false := by simp; omega
        go_wp2
        go_quiet (fail)
        go_wp2
        go_quiet (fail)
        go_wp2
        go_quiet (fail)
        go_wp2
        go_roundw
        case rel => exact lp_next hB hkn
        case measure => simp [intOf]; omega
      · have hz : xk = 0 := by omega
        have hbe := hzz hz
        subst hbe
        have q1z : wr.cell? ⟨g, k * 6 + 1, none⟩ = some (.int .i64 0) := by rw [q1, hz]; rfl
        have o0z : wr.cell? ⟨g2, k * 5, none⟩ = some (.int .i64 0) := by rw [o0, hz]; rfl
        clear hzz hz hk0 q1 o0
        go_wp2
        go_quiet (fail)
        go_wp2
        go_quiet (fail)
        go_wp2
        go_quiet (fail)
        go_wp2
        go_roundw
        case rel => exact lp_next hB hkn
        case measure => simp [intOf]; omega
    · clear hk
      go_wp2
      go_ret
      exact ⟨rfl, hBB.trans (hB.mono hBB.size)⟩


/-- The law's check of one text's parts answers true. -/
theorem lparts_any (kd a m : Int) (s : ByteArray) (E : Value) (W : World) (hs : s.size ≤ maxLen) (hm : W.cell? ⟨8, 0, none⟩ = some (.int .i64 m)) :
    Calls Tryz.prog 15 #[.agg #[.int .i64 kd, .int .i64 a, .string s, E]] W (LBPost W) := by
  have hl6 := parts_len s
  by_cases hc : 0 < a ∧ a < (partsOf s).length
  · obtain ⟨hc1, hc2⟩ := cut_some hc.1 hc.2 hl6
    obtain ⟨n, hn⟩ : ∃ n : Nat, a = n := ⟨a.toNat, by omega⟩
    subst hn
    have hn2 : (cutAt (n : Int) (partsOf s)).length = n := by rw [hc2]; exact Int.toNat_natCast n
    refine lparts_cut kd m n _ s E W (partsOf s) (cutAt n (partsOf s)) (by omega) (by omega) hl6 (fun w => rparts s w) (fun W h => ?_) (fun k x hx => parts_zero s x (by rw [hc1] at hx; exact List.mem_of_mem_take (List.mem_of_getElem? hx)))
      (show cutAt (n : Int) (partsOf s) <+: partsOf s by rw [hc1]; exact List.take_prefix _ _) (show (partsOf s).length = (partsOf s).length from rfl) hn2.symm hm
    have := pparts s n m W hs h
    unfold PlPost at this
    rw [hn2] at this
    exact this
  · have hca := cut_all hc hl6
    have hp : ∀ W : World, W.cell? ⟨8, 0, none⟩ = some (.int .i64 m) → Calls Tryz.prog 29 #[.string s, .int .i64 a] W fun e w' => ∃ o1 c1 o2 c2, e = .returned (.tuple #[.slice o1 (partsOf s).length c1, .slice o2 (partsOf s).length c2]) ∧
        w'.ownsRow (W.heap.size + 9) 3 1 (.slice o1 (partsOf s).length c1) (partsOf s).length ((partsOf s).map lnv) ∧ w'.ownsRow (W.heap.size + 9) 58 5 (.slice o2 (partsOf s).length c2) (partsOf s).length ((partsOf s).flatMap ptc) ∧ Below W.heap.size W w' := fun W h => by
      have := pparts s a m W hs h
      unfold PlPost at this
      rw [hca] at this
      exact this
    by_cases ha : 0 < a
    · exact lparts_far kd m a _ s E W (partsOf s) ha (by omega) hl6 (fun w => rparts s w) hp (fun k x hx => parts_zero s x (List.mem_of_getElem? hx)) (show (partsOf s).length = (partsOf s).length from rfl) hm
    · exact lparts_neg kd m a _ s E W (partsOf s) (by omega) hl6 (fun w => rparts s w) hp (fun k x hx => parts_zero s x (List.mem_of_getElem? hx)) (show (partsOf s).length = (partsOf s).length from rfl) hm
end Go.Proofs.YtcnpkijjnbhagaaGreatDoor
