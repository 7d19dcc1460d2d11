/- The function bidiguardref.Lines, walked: its lines are those of spansF. -/
import Derived.Test.YtcnpkijjnbhagaaQuoted
namespace Go.Proofs.Ytcnpkijjnbhagaa
open Go.RowKit

theorem Try.infoStr : (Try.prog.info? 9).map (fun i => (i.zero, i.size, i.bytes)) = some (some (.string ByteArray.empty), 1, 16) := by kernel_rfl
/-- The value of a line. -/
def strv (s : ByteArray) (p : Nat × Nat) : Value := .string (s.extract p.1 p.2)
/-- All lines. -/
def spans (s : ByteArray) : List (Nat × Nat) := spansF s.data.toList 0 0
/-- The lines that are still to come at place k. -/
def restL (s : ByteArray) (k b : Nat) : List (Nat × Nat) := if k ≤ s.size then spansF (s.data.toList.drop k) k b else []
def LinesPost (s : ByteArray) (w : World) (e : Ending) (w' : World) : Prop :=
  ∃ v, e = .returned v ∧ w'.ownsRow w.heap.size 9 1 v (spans s).length ((spans s).map (strv s)) ∧ Below w.heap.size w w'
def LRel (s : ByteArray) (w : World) (v f i : Value) (wr : World) : Prop :=
  ∃ (k b : Nat) (pre : List (Nat × Nat)), f = .int .i64 b ∧ i = .int .i64 k ∧ k ≤ s.size + 1 ∧ b ≤ k ∧ pre.length ≤ k ∧
    wr.ownsRow w.heap.size 9 1 v pre.length (pre.map (strv s)) ∧ pre ++ restL s k b = spans s ∧ Below w.heap.size w wr
theorem restL_end (s : ByteArray) (b : Nat) : restL s s.size b = [(b, s.size)] := by
  unfold restL
  rw [if_pos (Nat.le_refl _), List.drop_eq_nil_of_le (by simp)]
  rfl
theorem restL_over (s : ByteArray) (k b : Nat) (h : ¬ k ≤ s.size) : restL s k b = [] := by
  unfold restL; rw [if_neg h]
theorem restL_nl (s : ByteArray) (k b : Nat) (h : k < s.size) (hc : s[k] = 10) : restL s k b = (b, k) :: restL s (k + 1) (k + 1) := by
  unfold restL
  rw [if_pos (by omega), if_pos (by omega), drop_cons s k h, hc]
  simp [spansF]
theorem restL_else (s : ByteArray) (k b : Nat) (h : k < s.size) (hc : s[k] ≠ 10) : restL s k b = restL s (k + 1) b := by
  unfold restL
  rw [if_pos (by omega), if_pos (by omega), drop_cons s k h]
  simp [spansF, hc]
theorem l_start (s : ByteArray) (w : World) : LRel s w (.slice none 0 0) (.int .i64 0) (.int .i64 0) w :=
  ⟨0, 0, [], rfl, rfl, by omega, by omega, by simp, World.ownsRow_nil _ _ _ _, by simp [restL, spans], Below.refl _ _⟩
theorem l_step (s : ByteArray) (w wr : World) (v : Value) (k b : Nat) (pre : List (Nat × Nat)) (hk : k < s.size) (hb : b ≤ k) (hp : pre.length ≤ k)
    (ho : wr.ownsRow w.heap.size 9 1 v pre.length (pre.map (strv s))) (hr : pre ++ restL s k b = spans s) (hB : Below w.heap.size w wr) (hc : ((s[k].toNat : Int) == 10) = false) :
    LRel s w v (.int .i64 b) (.int .i64 ((k : Int) + 1)) wr :=
  ⟨k + 1, b, pre, rfl, rfl, by omega, by omega, by omega, ho, by rw [← hr, restL_else s k b hk (byte_ne (n := 10) (by decide) (by simpa using hc))], hB⟩
theorem l_line (s : ByteArray) (w wr w1 : World) (v v' : Value) (o : Obj) (k b : Nat) (pre : List (Nat × Nat)) (hk : k ≤ s.size) (hb : b ≤ k) (hp : pre.length ≤ k)
    (ho : wr.ownsRow w.heap.size 9 1 v pre.length (pre.map (strv s))) (hr : pre ++ restL s k b = spans s) (hB : Below w.heap.size w wr)
    (ho' : w1.ownsRow w.heap.size 9 1 v' (pre.length + 1) (pre.map (strv s) ++ [.string (s.extract b k)])) (hg : (wr.alloc o).grownBy w1 v.ownBlock)
    (hc : k = s.size ∨ ∃ h : k < s.size, ((s[k].toNat : Int) == 10) = true) :
    LRel s w v' (.int .i64 ((k : Int) + 1)) (.int .i64 ((k : Int) + 1)) w1 := by
  refine ⟨k + 1, k + 1, pre ++ [(b, k)], rfl, rfl, by omega, by omega, by simp; omega, by simpa [strv] using ho', ?_, (hB.alloc hB.size o).grown hg (by have := hB.size; simp; omega) (fun j hj => (ho.lt j hj).1)⟩
  rw [← hr, List.append_assoc]
  congr 1
  rcases hc with rfl | ⟨h, hc⟩
  · rw [restL_end, restL_over _ _ _ (by omega)]; rfl
  · rw [restL_nl s k b h (byte_eq (n := 10) (by decide) hc)]; rfl
theorem l_over (s : ByteArray) (w wr : World) (v : Value) (k b : Nat) (pre : List (Nat × Nat)) (hk : ¬ k ≤ s.size)
    (ho : wr.ownsRow w.heap.size 9 1 v pre.length (pre.map (strv s))) (hr : pre ++ restL s k b = spans s) (hB : Below w.heap.size w wr) : LinesPost s w (.returned v) wr := by
  rw [restL_over _ _ _ hk, List.append_nil] at hr
  subst hr
  exact ⟨v, rfl, ho, hB⟩

set_option maxHeartbeats 1000000 in
set_option maxRecDepth 100000 in
theorem lines_any (s : ByteArray) (w : World) (hs : s.size ≤ 1000000) : Calls Try.prog 7 #[.string s] w (LinesPost s w) := by
  obtain ⟨i0, hi, hz0, hz1, hz2⟩ := info_parts Try.infoStr
  go_enter Try.func7, Try.ntmps7
  go_wp2
  go_loopw [3, 4, 5] (LRel s w) (fun _ _ i _ => s.size + 2 - (intOf i).toNat)
  case atStart => exact l_start s w
  case round =>
    obtain ⟨k, b, pre, rfl, rfl, hk, hb, hp, ho, hr, hB⟩ := hrel
    have HR := Lib.hid hr; clear hr
    by_cases hle : k ≤ s.size
    · by_cases heq : k = s.size
      · have hne : ((k : Int) == (s.size : Int)) = true := by simp [heq]
        have HQ := Lib.hid heq; clear heq
        go_wp2_with (at_builtin; refine wpList_append_own _ rfl _ _ 36 rfl w.heap.size 9 i0 (.string ByteArray.empty) 1 16 Try.underlying36 hi hz0 hz1 hz2 rfl (by decide) _ _ _ rfl (ho.alloc _) ⟨wr.heap.size, 0, none⟩ 1 1 [.string (s.extract b k)] rfl rfl (cell_one_new _ _ _) (by simp [Value.oneCell']) (by unfold maxLen; omega) (by omega) (by have := hB.size; simp; omega) ?_; intro v' w1 ho' hg _)
        go_roundw
        case rel => exact l_line s w wr w1 _ v' _ k b pre hle hb hp ho HR.out hB ho' hg (.inl HQ.out)
        case measure => simp [intOf]; omega
      · have hne : ((k : Int) == (s.size : Int)) = false := by simp; omega
        have hlt : k < s.size := by omega
        clear heq hle
        by_cases hc : ((s[k].toNat : Int) == 10) = true
        · go_wp2_with (at_builtin; refine wpList_append_own _ rfl _ _ 36 rfl w.heap.size 9 i0 (.string ByteArray.empty) 1 16 Try.underlying36 hi hz0 hz1 hz2 rfl (by decide) _ _ _ rfl (ho.alloc _) ⟨wr.heap.size, 0, none⟩ 1 1 [.string (s.extract b k)] rfl rfl (cell_one_new _ _ _) (by simp [Value.oneCell']) (by unfold maxLen; omega) (by omega) (by have := hB.size; simp; omega) ?_; intro v' w1 ho' hg _)
          go_roundw
          case rel => exact l_line s w wr w1 _ v' _ k b pre (by omega) hb hp ho HR.out hB ho' hg (.inr ⟨hlt, hc⟩)
          case measure => simp [intOf]; omega
        · have hc' : ((s[k].toNat : Int) == 10) = false := by simpa using hc
          clear hc
          go_wp2
          go_roundw
          case rel => exact l_step s w wr _ k b pre hlt hb hp ho HR.out hB hc'
          case measure => simp [intOf]; omega
    · go_wp2
      go_ret
      exact l_over s w wr _ k b pre hle ho HR.out hB
end Go.Proofs.Ytcnpkijjnbhagaa
