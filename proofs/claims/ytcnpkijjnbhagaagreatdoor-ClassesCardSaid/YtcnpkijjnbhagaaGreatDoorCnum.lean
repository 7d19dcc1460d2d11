/- The law's comparison of two answers, and its check of a step of kind 1, walked. -/
import Derived.Test.YtcnpkijjnbhagaaGreatDoorCplay
namespace Go.Proofs.YtcnpkijjnbhagaaGreatDoor
open Go.RowKit Go.Lib

set_option maxHeartbeats 1000000 in
set_option maxRecDepth 100000 in
theorem told_same (x y z : Int) (W : World) : Calls Tryz.prog 23 #[.agg #[.int .i64 x, .int .i64 y, .int .i64 z], .agg #[.int .i64 x, .int .i64 y, .int .i64 z]] W fun e w' => e = .returned (.bool true) ∧ Below W.heap.size W w' := by
  go_enter Tryz.func23, Tryz.ntmps23
  go_wp2
  go_ret
  exact ⟨rfl, ((Below.refl W.heap.size W).alloc (Nat.le_refl _) _).alloc (by simp) _⟩
theorem heap2 (W : World) (o1 o2 : Obj) : ((W.alloc o1).alloc o2).heap[W.heap.size]? = some o1 ∧ ((W.alloc o1).alloc o2).heap[W.heap.size + 1]? = some o2 := by
  constructor
  · rw [heap_alloc_old _ _ (by simp), heap_alloc_new]
  · have := heap_alloc_new (W.alloc o1) o2
    rw [World.size_alloc] at this
    exact this
def NmRel (n : Nat) (W : World) (i : Value) (wr : World) : Prop := ∃ k : Nat, i = .int .i64 k ∧ k ≤ n ∧ Below W.heap.size W wr
theorem nm_next {n k j : Nat} {W wr : World} {x : Int} (hx : x = (k : Int) + 1) (hB : Below W.heap.size W wr) (hk : k < n) : NmRel n W (.int .i64 x) (wr.drewN j) := by
  subst hx
  exact ⟨k + 1, rfl, hk, below_drewNv hB _⟩
def NmPost (W : World) (e : Ending) (w' : World) : Prop := e = .returned (.bool true) ∧ Below W.heap.size W w'
set_option maxHeartbeats 2000000 in
set_option maxRecDepth 100000 in
theorem numbers_zero (L : List Nat) (va vb : Option Addr) (ca cb : Nat) (y z : Int) (W : World) (hn : L.length ≤ 600) (ha : IntsAt W va (L.map zv)) (hb : IntsAt W vb (L.map zv)) :
    Calls Tryz.prog 10 #[.slice va L.length ca, .agg #[.int .i64 0, .int .i64 y, .int .i64 z], .slice vb L.length cb, .agg #[.int .i64 0, .int .i64 y, .int .i64 z]] W (NmPost W) := by
  have HA := Lib.hid ha
  have HB := Lib.hid hb
  clear ha hb
  obtain ⟨n, hnn⟩ : ∃ n, n = L.length := ⟨_, rfl⟩
  rw [← hnn] at hn
  rw [← hnn]
  have HN := Lib.hid hnn
  clear hnn
  go_enter Tryz.func10, Tryz.ntmps10
  go_wp2_with fail
  refine (told_same 0 y z _).mono ?_
  rintro e w1 ⟨rfl, hB1⟩
  have hh1 := (hB1.block (W.heap.size + 1) (by simp)).trans (heap2 W _ _).2
  have e0 := cell_of_row _ _ 0 _ _ _ hh1
  simp only [List.getElem?_toArray, List.getElem?_cons_zero] at e0
  have hB := (((Below.refl W.heap.size W).alloc (Nat.le_refl _) (.cells #[.int .i64 0, .int .i64 y, .int .i64 z] 31)).alloc (by simp) (.cells #[.int .i64 0, .int .i64 y, .int .i64 z] 34)).trans (hB1.mono (by simp; omega))
  have HBB := Lib.hid hB
  have HA1 := Lib.hid (HA.out.below hB (Nat.le_refl _))
  have HB1 := Lib.hid (HB.out.below hB (Nat.le_refl _))
  clear hh1 hB1 hB
  go_wp2
  go_loopw [10] (NmRel n w1) (fun i _ => n - (RowKit.intOf i).toNat)
  case atStart => exact ⟨0, rfl, Nat.zero_le _, Below.refl _ _⟩
  case round =>
    obtain ⟨k, rfl, hk, hBr⟩ := hrel
    by_cases hkn : k < n
    · have hk' : k < L.length := by have := HN.out; omega
      obtain ⟨r, hr⟩ : ∃ r, L[k]? = some r := ⟨_, List.getElem?_eq_getElem hk'⟩
      obtain ⟨g, o, hva, hc⟩ := HA1.out k (zv r) (by rw [List.getElem?_map, hr]; rfl)
      obtain ⟨g2, o2, hvb, hc2⟩ := HB1.out k (zv r) (by rw [List.getElem?_map, hr]; rfl)
      subst hva
      subst hvb
      have d1 := (hBr.cell (World.block_lt_of_cell? w1 ⟨g, o + k, none⟩ hc)).trans hc
      have d2 := (hBr.cell (World.block_lt_of_cell? w1 ⟨g2, o2 + k, none⟩ hc2)).trans hc2
      clear hc hc2 hr hk'
      go_wp2
      go_quiet (fail)
      go_wp2
      go_roundw
      case rel => exact nm_next rfl hBr hkn
      case measure => exact sz_less rfl hkn
    · clear hk
      go_wp2
      go_ret
      exact ⟨rfl, HBB.out.trans (hBr.mono HBB.out.size)⟩
set_option maxHeartbeats 1000000 in
set_option maxRecDepth 100000 in
theorem numbers_nil (vb : Option Addr) (cb : Nat) (x y z : Int) (W : World) (hx : ¬ x = 0) :
    Calls Tryz.prog 10 #[.slice none 0 0, .agg #[.int .i64 x, .int .i64 y, .int .i64 z], .slice vb 0 cb, .agg #[.int .i64 x, .int .i64 y, .int .i64 z]] W (NmPost W) := by
  have ex : (x != 0) = true := by simpa using hx
  go_enter Tryz.func10, Tryz.ntmps10
  go_wp2_with fail
  refine (told_same x y z _).mono ?_
  rintro e w1 ⟨rfl, hB1⟩
  have hh1 := (hB1.block (W.heap.size + 1) (by simp)).trans (heap2 W _ _).2
  have e0 := cell_of_row _ _ 0 _ _ _ hh1
  simp only [List.getElem?_toArray, List.getElem?_cons_zero] at e0
  have hB := (((Below.refl W.heap.size W).alloc (Nat.le_refl _) (.cells #[.int .i64 x, .int .i64 y, .int .i64 z] 31)).alloc (by simp) (.cells #[.int .i64 x, .int .i64 y, .int .i64 z] 34)).trans (hB1.mono (by simp; omega))
  have HBB := Lib.hid hB
  clear hh1 hB1 hB
  go_wp2
  go_loopw [10] (NmRel 0 w1) (fun i _ => 0 - (RowKit.intOf i).toNat)
  case atStart => exact ⟨0, rfl, Nat.zero_le _, Below.refl _ _⟩
  case round =>
    obtain ⟨k, rfl, hk, hBr⟩ := hrel
    go_wp2
    go_ret
    exact ⟨rfl, HBB.out.trans (hBr.mono HBB.out.size)⟩
theorem ints_of_own {W : World} {base c : Nat} {vo : Option Addr} {L : List Nat} (h : W.ownsRow base 3 1 (.slice vo L.length c) L.length (L.map iv)) : IntsAt W vo (L.map zv) := by
  rw [← iv_zv] at h
  exact ints_own h (by simp)
set_option maxHeartbeats 1000000 in
set_option maxRecDepth 100000 in
theorem plays_classes (a : Int) (s : ByteArray) (E : Value) (a0 a1 a2 : Addr) (tb tt cap : Nat) (W : World) (hE : Env W a0 a1 a2 tb tt cap) :
    Calls Tryz.prog 7 #[.agg #[.int .i64 1, .int .i64 a, .string s, E]] W (TruePost W) := by
  obtain ⟨hl6, _⟩ := okL_len s
  have hB0 : Below W.heap.size W (W.alloc (.cells #[.int .i64 1, .int .i64 a, .string s, E] 27)) := (Below.refl W.heap.size W).alloc (Nat.le_refl _) _
  have HE := Lib.hid (hE.below hB0 (Nat.le_refl _))
  clear hE
  have hh0 := heap_alloc_new W (.cells #[.int .i64 1, .int .i64 a, .string s, E] 27)
  go_enter Tryz.func7, Tryz.ntmps7
  go_wp2_with fail
  refine (pclasses_any s a0 a1 a2 tb tt cap _ HE.out).mono ?_
  rintro e w1 ⟨va, ca, rfl, hoa, hna, hB1⟩
  have hh1 := (hB1.block W.heap.size (by simp)).trans hh0
  have hBB1 := hB0.trans (hB1.mono (by simp))
  have c2 := cell_of_row _ _ 2 _ _ _ hh1
  simp only [List.getElem?_toArray, List.getElem?_cons_succ, List.getElem?_cons_zero] at c2
  have hw1 : W.heap.size < w1.heap.size := heap_lt hh1
  have c2a := fun o => (World.cell?_alloc_lt w1 o ⟨W.heap.size, 2, none⟩ hw1).trans c2
  have HOA := Lib.hid hoa
  have HNA := Lib.hid hna
  obtain ⟨fa, fb, fc, hfv⟩ := fv_agg (faultF s)
  have HFV := Lib.hid hfv
  rw [hfv]
  clear hoa hna hfv hh0 hB0 hB1
  go_wp2_with fail
  refine (refClasses_any s _).mono ?_
  rintro e w2 ⟨vb, cb, rfl, hob, hB2⟩
  rw [HFV.out]
  have HOB := Lib.hid hob
  have HBB := Lib.hid ((hBB1.alloc hBB1.size _).trans (hB2.mono (by have := hBB1.size; simp; omega)))
  have hf := (hB2.block w1.heap.size (by simp)).trans (heap_alloc_new w1 _)
  have HB2 := Lib.hid hB2
  have hw2 : w1.heap.size < w2.heap.size := heap_lt hf
  have j0 := cell_of_row _ _ 0 _ _ _ hf
  have j1 := cell_of_row _ _ 1 _ _ _ hf
  have j2 := cell_of_row _ _ 2 _ _ _ hf
  simp only [List.getElem?_toArray, List.getElem?_cons_succ, List.getElem?_cons_zero] at j0 j1 j2
  have k0 := fun o => (World.cell?_alloc_lt w2 o ⟨w1.heap.size, 0, none⟩ hw2).trans j0
  have k1 := fun o => (World.cell?_alloc_lt w2 o ⟨w1.heap.size, 1, none⟩ hw2).trans j1
  have k2 := fun o => (World.cell?_alloc_lt w2 o ⟨w1.heap.size, 2, none⟩ hw2).trans j2
  clear hob hB2 hBB1 hh1 hf
  go_wp2_with fail
  have hA : IntsAt (w2.alloc (.cells #[.int .i64 fa, .int .i64 fb, .int .i64 fc] 34)) va (((okL s).map refC).map zv) :=
    (ints_of_own (by rw [List.length_map]; exact HOA.out)).below ((((Below.refl w1.heap.size w1).alloc (Nat.le_refl _) _).trans (HB2.out.mono (by simp))).alloc (by omega) _) (Nat.le_refl _)
  have hB : IntsAt (w2.alloc (.cells #[.int .i64 fa, .int .i64 fb, .int .i64 fc] 34)) vb (((okL s).map refC).map zv) :=
    (ints_of_own (by rw [List.length_map]; exact HOB.out)).below ((Below.refl w2.heap.size w2).alloc (Nat.le_refl _) _) (Nat.le_refl _)
  have hnum : Calls Tryz.prog 10 #[.slice va (okL s).length ca, .agg #[.int .i64 fa, .int .i64 fb, .int .i64 fc], .slice vb (okL s).length cb, .agg #[.int .i64 fa, .int .i64 fb, .int .i64 fc]] (w2.alloc (.cells #[.int .i64 fa, .int .i64 fb, .int .i64 fc] 34)) (NmPost (w2.alloc (.cells #[.int .i64 fa, .int .i64 fb, .int .i64 fc] 34))) := by
    have h1 := HFV.out
    by_cases hF : faultF s = 0
    · rw [hF] at h1
      have h2 : fv 0 = .agg #[.int .i64 0, .int .i64 0, .int .i64 0] := rfl
      rw [h2] at h1
      injection h1 with h1
      simp at h1
      obtain ⟨rfl, rfl, rfl⟩ := h1
      have := numbers_zero ((okL s).map refC) va vb ca cb 0 0 _ (by rw [List.length_map]; exact hl6) hA hB
      rw [List.length_map] at this
      exact this
    · obtain ⟨rfl, rfl⟩ := HNA.out hF
      have hO : okL s = [] := by unfold okL; rw [if_neg hF]
      rw [hO]
      refine numbers_nil vb cb fa fb fc _ ?_
      unfold fv at h1
      rw [if_neg hF] at h1
      injection h1 with h1
      simp at h1
      omega
  have HNum := Lib.hid hnum
  clear hnum hA hB
  refine HNum.out.mono ?_
  rintro e w3 ⟨rfl, hB3⟩
  go_wp2
  go_ret
  exact ⟨rfl, (HBB.out.alloc HBB.out.size _).trans (hB3.mono (by have := HBB.out.size; simp; omega))⟩
end Go.Proofs.YtcnpkijjnbhagaaGreatDoor
