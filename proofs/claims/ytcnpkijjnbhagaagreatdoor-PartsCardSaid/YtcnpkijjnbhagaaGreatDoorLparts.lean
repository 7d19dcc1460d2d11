/- The law's check of one text's parts, walked: it answers true. -/
import Derived.Test.YtcnpkijjnbhagaaGreatDoorPparts
import Derived.Test.YtcnpkijjnbhagaaGreatDoorPlen
import Derived.Test.YtcnpkijjnbhagaaGreatDoorRparts
namespace Go.Proofs.YtcnpkijjnbhagaaGreatDoor
open Go.RowKit

theorem refF_eq (s : ByteArray) : refF s = partsOf s := by
  unfold refF partsOf
  split
  · exact (each_toks s.data.toList _ 0 0 0 0 (Nat.le_refl _)).symm
  · rfl
set_option maxHeartbeats 1000000 in
set_option maxRecDepth 100000 in
theorem rparts_big (s : ByteArray) (w : World) (h6 : 600 < s.size) : Calls Tryz.prog 28 #[.string s] w (RpPost s w) := by
  have hr : Hid (refF s = []) := by unfold refF; rw [if_neg (by omega)]; exact rfl
  have e6 : decide (600 < (s.size : Int)) = true := decide_eq_true (by omega)
  go_enter Tryz.func28, Tryz.ntmps28
  go_wp2
  go_ret
  exact ⟨.slice none 0 0, rfl, by rw [hr.out]; exact World.ownsRow_nil _ _ _ _, Below.refl _ _⟩
/-- The reference's Parts, as the program's. -/
def LpPost (s : ByteArray) (w : World) (e : Ending) (w' : World) : Prop :=
  ∃ o c, e = .returned (.slice o (partsOf s).length c) ∧ (partsOf s).length ≤ c ∧ w'.ownsRow w.heap.size 56 6 (.slice o (partsOf s).length c) (partsOf s).length ((partsOf s).flatMap rpc) ∧ Below w.heap.size w w'
theorem rparts (s : ByteArray) (w : World) : Calls Tryz.prog 28 #[.string s] w (LpPost s w) := by
  have h : Calls Tryz.prog 28 #[.string s] w (RpPost s w) := by
    by_cases h6 : s.size ≤ 600
    · exact rparts_any s w h6
    · exact rparts_big s w (by omega)
  refine h.mono fun e w' ⟨v, he, ho, hB⟩ => ?_
  rw [refF_eq] at ho
  obtain ⟨o, c, rfl⟩ := tok_shape ho
  refine ⟨o, c, he, ?_, ho, hB⟩
  rcases ho.2 with ⟨h1, h2⟩ | ⟨g, cap, cur, h1, _, _, h2, _⟩
  · injection h1 with _ h3 h4; omega
  · injection h1 with _ _ h4; omega
def PlPost (s : ByteArray) (a : Int) (w : World) (e : Ending) (w' : World) : Prop :=
  ∃ o1 c1 o2 c2, e = .returned (.tuple #[.slice o1 (cutAt a (partsOf s)).length c1, .slice o2 (cutAt a (partsOf s)).length c2]) ∧ w'.ownsRow (w.heap.size + 9) 3 1 (.slice o1 (cutAt a (partsOf s)).length c1) (cutAt a (partsOf s)).length ((cutAt a (partsOf s)).map lnv) ∧
    w'.ownsRow (w.heap.size + 9) 58 5 (.slice o2 (cutAt a (partsOf s)).length c2) (cutAt a (partsOf s)).length ((cutAt a (partsOf s)).flatMap ptc) ∧ Below w.heap.size w w'
theorem pparts (s : ByteArray) (a m : Int) (W : World) (hs : s.size ≤ maxLen) (hm : W.cell? ⟨8, 0, none⟩ = some (.int .i64 m)) : Calls Tryz.prog 29 #[.string s, .int .i64 a] W (PlPost s a W) :=
  (pparts_any s a m W hs hm).mono fun e w' ⟨v, u, he, hv, hu, ho⟩ => by
    obtain ⟨k1, c1, rfl⟩ := ownsRow_shape hv
    obtain ⟨k2, c2, rfl⟩ := ownsRow_shape hu
    exact ⟨k1, c1, k2, c2, he, hv, hu, ⟨ho.os, ho.tape, ho.output, ho.size, fun k hk => ho.block k hk (by unfold Ours; omega)⟩⟩
theorem cut_some {a : Int} {all : List Pt} (h1 : 0 < a) (h2 : a < all.length) (h3 : all.length ≤ 600) : cutAt a all = all.take a.toNat ∧ (cutAt a all).length = a.toNat := by
  have : cutAt a all = all.take a.toNat := by unfold cutAt; rw [if_pos (by omega)]
  exact ⟨this, by rw [this, List.length_take]; omega⟩
theorem cut_all {a : Int} {all : List Pt} (h : ¬ (0 < a ∧ a < all.length)) (h3 : all.length ≤ 600) : cutAt a all = all := by
  unfold cutAt
  split
  · exact List.take_of_length_le (by omega)
  · exact List.take_of_length_le (by omega)
theorem flat6 (P : List Pt) : ∀ (j : Nat) (x : Pt), P[j]? = some x → ∀ i u, i < 6 → (rpc x)[i]? = some u → (P.flatMap rpc)[j * 6 + i]? = some u := by
  induction P with
  | nil => intro j x h; simp at h
  | cons y r ih =>
    intro j x h i u hi hu
    rcases j with _ | j
    · simp at h
      subst h
      simp only [List.flatMap_cons, Nat.zero_mul, Nat.zero_add]
      rw [List.getElem?_append_left (by simpa [rpc] using hi)]
      exact hu
    · simp only [List.flatMap_cons]
      rw [List.getElem?_append_right (by simp [rpc]; omega)]
      have := ih j x (by simpa using h) i u hi hu
      rw [← this]
      congr 1
      simp [rpc]
      omega
theorem flat5 (P : List Pt) : ∀ (j : Nat) (x : Pt), P[j]? = some x → ∀ i u, i < 5 → (ptc x)[i]? = some u → (P.flatMap ptc)[j * 5 + i]? = some u := by
  induction P with
  | nil => intro j x h; simp at h
  | cons y r ih =>
    intro j x h i u hi hu
    rcases j with _ | j
    · simp at h
      subst h
      simp only [List.flatMap_cons, Nat.zero_mul, Nat.zero_add]
      rw [List.getElem?_append_left (by simpa [ptc] using hi)]
      exact hu
    · simp only [List.flatMap_cons]
      rw [List.getElem?_append_right (by simp [ptc]; omega)]
      have := ih j x (by simpa using h) i u hi hu
      rw [← this]
      congr 1
      simp [ptc]
      omega
/-- The three lists lie in memory. -/
def Lies3 (W : World) (n : Nat) (o o1 o2 : Option Addr) (P : List Pt) : Prop :=
  ∀ j, j < n → ∃ g g1 g2 x, o = some ⟨g, 0, none⟩ ∧ o1 = some ⟨g1, 0, none⟩ ∧ o2 = some ⟨g2, 0, none⟩ ∧ P[j]? = some x ∧ W.cell? ⟨g1, j, none⟩ = some (.int .i64 x.ln) ∧
    W.cell? ⟨g, j * 6, none⟩ = some (.int .i64 x.ln) ∧ W.cell? ⟨g, j * 6 + 1, none⟩ = some (.int .i64 x.kd) ∧ W.cell? ⟨g, j * 6 + 2, none⟩ = some (.int .i64 x.fr) ∧ W.cell? ⟨g, j * 6 + 3, none⟩ = some (.int .i64 x.to) ∧
    W.cell? ⟨g, j * 6 + 4, none⟩ = some (.int .i64 x.bd) ∧ W.cell? ⟨g, j * 6 + 5, none⟩ = some (.int .i64 x.en) ∧
    W.cell? ⟨g2, j * 5, none⟩ = some (.int .i64 x.kd) ∧ W.cell? ⟨g2, j * 5 + 1, none⟩ = some (.int .i64 x.fr) ∧ W.cell? ⟨g2, j * 5 + 2, none⟩ = some (.int .i64 x.to) ∧ W.cell? ⟨g2, j * 5 + 3, none⟩ = some (.int .i64 x.bd) ∧ W.cell? ⟨g2, j * 5 + 4, none⟩ = some (.int .i64 x.en)
theorem lies3 {W : World} {b b1 : Nat} {o o1 o2 : Option Addr} {n0 n c c1 c2 : Nat} {A P : List Pt} (hn0 : n0 = A.length) (hn : n = P.length) (hP : P <+: A) (h : W.ownsRow b 56 6 (.slice o n0 c) n0 (A.flatMap rpc))
    (h1 : W.ownsRow b1 3 1 (.slice o1 n c1) n (P.map lnv)) (h2 : W.ownsRow b1 58 5 (.slice o2 n c2) n (P.flatMap ptc)) : Lies3 W n o o1 o2 P := by
  intro j hj
  have hle : P.length ≤ A.length := hP.length_le
  obtain ⟨m0, rfl⟩ : ∃ m0, n0 = m0 + 1 := ⟨n0 - 1, by omega⟩
  obtain ⟨m, rfl⟩ : ∃ m, n = m + 1 := ⟨n - 1, by omega⟩
  obtain ⟨g, rfl⟩ := own_form h
  obtain ⟨g1, rfl⟩ := own_form h1
  obtain ⟨g2, rfl⟩ := own_form h2
  have hx : P[j]? = some (P[j]'(by omega)) := List.getElem?_eq_getElem _
  have hA : A[j]? = some (P[j]'(by omega)) := by
    obtain ⟨t, rfl⟩ := hP
    rw [List.getElem?_append_left (by omega)]; exact hx
  generalize P[j]'(by omega) = x at hx hA
  refine ⟨g, g1, g2, x, rfl, rfl, rfl, hx, ?_, ?_, ?_, ?_, ?_, ?_, ?_, ?_, ?_, ?_, ?_, ?_⟩
  · rw [h1.cellAt j (by omega), List.getElem?_map, hx]; rfl
  · rw [h.cellAt (j * 6) (by omega)]; exact flat6 A j x hA 0 _ (by omega) rfl
  · rw [h.cellAt (j * 6 + 1) (by omega)]; exact flat6 A j x hA 1 _ (by omega) rfl
  · rw [h.cellAt (j * 6 + 2) (by omega)]; exact flat6 A j x hA 2 _ (by omega) rfl
  · rw [h.cellAt (j * 6 + 3) (by omega)]; exact flat6 A j x hA 3 _ (by omega) rfl
  · rw [h.cellAt (j * 6 + 4) (by omega)]; exact flat6 A j x hA 4 _ (by omega) rfl
  · rw [h.cellAt (j * 6 + 5) (by omega)]; exact flat6 A j x hA 5 _ (by omega) rfl
  · rw [h2.cellAt (j * 5) (by omega)]; exact flat5 P j x hx 0 _ (by omega) rfl
  · rw [h2.cellAt (j * 5 + 1) (by omega)]; exact flat5 P j x hx 1 _ (by omega) rfl
  · rw [h2.cellAt (j * 5 + 2) (by omega)]; exact flat5 P j x hx 2 _ (by omega) rfl
  · rw [h2.cellAt (j * 5 + 3) (by omega)]; exact flat5 P j x hx 3 _ (by omega) rfl
  · rw [h2.cellAt (j * 5 + 4) (by omega)]; exact flat5 P j x hx 4 _ (by omega) rfl
def LBPost (w : World) (e : Ending) (w' : World) : Prop := e = .returned (.bool true) ∧ Below w.heap.size w w'
def LpRel (n : Nat) (W : World) (i : Value) (wr : World) : Prop := ∃ k : Nat, i = .int .i64 k ∧ k ≤ n ∧ Below W.heap.size W wr
end Go.Proofs.YtcnpkijjnbhagaaGreatDoor
