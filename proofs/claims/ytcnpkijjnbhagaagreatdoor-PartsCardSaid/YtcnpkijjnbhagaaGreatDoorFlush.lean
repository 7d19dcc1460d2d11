/- The closure of lex.Each that tells of the code so far, walked; tell where it is over already. -/
import Derived.Test.YtcnpkijjnbhagaaGreatDoorTell
import Derived.StillTailTactics
namespace Go.Proofs.YtcnpkijjnbhagaaGreatDoor
open Go.RowKit

theorem tellN_bounds (l : List UInt8) (kd bd en t : Nat) : ∀ (n f ln bg : Nat), ln ≤ bg → bg ≤ f → f ≤ t → (tellN l kd bd en t n f ln bg).2.1 ≤ (tellN l kd bd en t n f ln bg).2.2 ∧ (tellN l kd bd en t n f ln bg).2.2 ≤ t
  | 0, f, ln, bg, h1, h2, h3 => ⟨h1, by simp only [tellN]; omega⟩
  | n + 1, f, ln, bg, h1, h2, h3 => by
    have h4 := stopF_ge l f t
    unfold tellN
    split
    · split
      · exact tellN_bounds l kd bd en t n _ _ _ (by omega) (Nat.le_refl _) (by omega)
      · exact ⟨h1, by simp only; omega⟩
    · exact ⟨h1, by simp only; omega⟩
theorem tellF_bounds (l : List UInt8) (kd f t bd en ln bg : Nat) (h1 : ln ≤ bg) (h2 : bg ≤ f) (h3 : f ≤ t) : (tellF l kd f t bd en ln bg).2.1 ≤ (tellF l kd f t bd en ln bg).2.2 ∧ (tellF l kd f t bd en ln bg).2.2 ≤ t :=
  tellN_bounds l kd bd en t _ f ln bg h1 h2 h3

set_option maxHeartbeats 400000 in
theorem tell_over (R : Nat) (s : ByteArray) (p ln bg : Nat) (y : Value) (kd f t bd en : Int) (W : World) (hr : Reader W R s p ln bg y true) :
    Calls Tryz.prog 134 #[.pointer (some ⟨R, 0, none⟩), .int .i64 kd, .int .i64 f, .int .i64 t, .int .i64 bd, .int .i64 en] W fun e W' => e = .returned (.tuple #[]) ∧ W = W' := by
  have r5 := hr.c5
  go_enter Tryz.func134, Tryz.ntmps134
  go_wp2
  refine wp_loop_rounds 1 ?_
  rw [rounds_succ]
  by_cases h : f < t
  · go_wp2
    go_end0
    exact ⟨rfl, rfl⟩
  · go_wp2
    go_end0
    exact ⟨rfl, rfl⟩

/-- The cells that the closure captured. -/
structure Caught (W : World) (R PR C c : Nat) : Prop where
  pr : W.heap[PR]? = some (.cells #[.pointer (some ⟨R, 0, none⟩)] 237 (0, 0))
  cc : W.heap[C]? = some (.cells #[.int .i64 c] 3 (0, 0))
theorem Caught.cpr {W : World} {R PR C c : Nat} (h : Caught W R PR C c) : W.cell? ⟨PR, 0, none⟩ = some (.pointer (some ⟨R, 0, none⟩)) := by simp [World.cell?, h.pr]
theorem Caught.ccc {W : World} {R PR C c : Nat} (h : Caught W R PR C c) : W.cell? ⟨C, 0, none⟩ = some (.int .i64 c) := by simp [World.cell?, h.cc]
theorem Caught.fz {W : World} {R PR C c : Nat} (h : Caught W R PR C c) : W.frozen? ⟨C, 0, none⟩ = false := by simp [World.frozen?, h.cc]

set_option maxHeartbeats 2000000 in
set_option maxRecDepth 100000 in
theorem flush_any (S : Nat → Prop) (R PR C l : Nat) (s : ByteArray) (p c ln bg : Nat) (all pre rest : List Pt) (J Jx : List Pt → World → Prop) (W : World)
    (hR : Wr S R) (hSlt : ∀ k, S k → k < W.heap.size) (hJ : Abides2 S J) (hJx : Abides2 S Jx) (hY : Rounds Tryz.prog S l all J Jx) (hs : s.size ≤ 1000000) (hp : p ≤ s.size)
    (hln : ln ≤ bg) (hbg : bg ≤ c) (hc : c ≤ p) (hC : Caught W R PR C c)
    (hr : Reader W R s p ln bg (.func (.yield l) #[] #[]) false) (h0 : J pre W) (hall : all = pre ++ (tellF s.data.toList 0 c p p p ln bg).1 ++ rest) :
    Calls Tryz.prog 133 #[.pointer (some ⟨C, 0, none⟩), .pointer (some ⟨PR, 0, none⟩)] W
      (TellPost S R s p (tellF s.data.toList 0 c p p p ln bg).2.1 (tellF s.data.toList 0 c p p p ln bg).2.2 (.func (.yield l) #[] #[]) all (pre ++ (tellF s.data.toList 0 c p p p ln bg).1) J Jx W) := by
  have k1 := hC.cpr
  have k2 := hC.ccc
  have r1 := hr.c1
  have ht : ∀ n : Nat, Calls Tryz.prog 134 #[.pointer (some ⟨R, 0, none⟩), .int .i64 0, .int .i64 c, .int .i64 p, .int .i64 p, .int .i64 p] (W.drewN n)
      (TellPost S R s p (tellF s.data.toList 0 c p p p ln bg).2.1 (tellF s.data.toList 0 c p p p ln bg).2.2 (.func (.yield l) #[] #[]) all (pre ++ (tellF s.data.toList 0 c p p p ln bg).1) J Jx (W.drewN n)) := fun n => tell_any S R l s p 0 c p p p ln bg all pre rest J Jx (W.drewN n) hR hSlt hJ hJx hY hs hp (by omega) (by omega) (by omega) hln hbg (by omega) (hr.drewN n) (hJ _ _ _ h0 ((Only.refl _ W).drewN n)) hall
  have HT := Lib.hid ht
  clear ht hall
  go_enter Tryz.func133, Tryz.ntmps133
  go_wp2
  go_quiet (fail)
  by_cases hlt : c < p
  · go_wp2
    refine wp_region_still_tail 14 (by kernel_rfl) (by kernel_rfl) ?_
    simp only [List.take_succ_cons, List.take_zero, List.drop_succ_cons, List.drop_zero]
    change wpStill _ _ (W.drewN (nq + 1)) _ _ _
    repeat still_step
    refine wpStill_nil ?_
    change wpList _ _ _ _ _ (W.drewN (nq + 1))
    go_wp2_with fail
    refine (HT.out _).mono ?_
    rintro e W2 ⟨rfl, hK, hd⟩
    go_wp2
    go_end0
    exact ⟨rfl, hK, hd⟩
  · go_wp2
    go_end0
    rw [tellF_done _ _ _ _ _ _ _ _ hlt]
    exact ⟨rfl, ⟨Nat.le_refl _, fun _ _ _ => rfl⟩, .inl ⟨hr, by simpa using hJ _ _ _ h0 ((Only.refl _ W).drewN nq)⟩⟩
end Go.Proofs.YtcnpkijjnbhagaaGreatDoor
