/- The reference's classes, asked and Classes, walked. -/
import Derived.Test.YtcnpkijjnbhagaaGreatDoorCclass2
import Derived.Deep.RegionWith
import Derived.Handy
namespace Go.Proofs.YtcnpkijjnbhagaaGreatDoor
open Go.RowKit Go.Lib

def zv (n : Nat) : Int := n
/-- The error's number: 0 none. -/
def faultF (s : ByteArray) : Nat :=
  if 600 < s.size then 1 else if validD s.data.toList = false ∨ 10 ∈ runesOf s.data.toList then 2 else if 300 < (runesOf s.data.toList).length then 1 else 0
def fv (k : Nat) : Value := if k = 0 then .agg #[.int .i64 0, .int .i64 0, .int .i64 0] else .agg #[.int .i64 k, .int .i64 (-1), .int .i64 (-1)]
def ClsRel (L : List Nat) (W : World) (lv i : Value) (wr : World) : Prop :=
  ∃ k : Nat, i = .int .i64 k ∧ k ≤ L.length ∧ wr.ownsRow W.heap.size 3 1 lv k (((L.take k).map refC).map iv) ∧ Below W.heap.size W wr
theorem cls_more {L : List Nat} {W wr w1 w2 : World} {v v' : Value} {k r : Nat} {x : Int} {o : Obj} (hr : Hid (L[k]? = some r)) (hx : x = (k : Int) + 1) (hB : Below W.heap.size W wr) (hB1 : Below wr.heap.size wr w1) (hv : ∀ g, v.ownBlock = some g → W.heap.size ≤ g)
    (ho : w2.ownsRow W.heap.size 3 1 v' (k + 1) (((L.take k).map refC).map iv ++ [.int .i64 (refC r : Nat)])) (hg : (w1.alloc o).grownBy w2 v.ownBlock) : ClsRel L W v' (.int .i64 x) w2 := by
  subst hx
  have hk : k < L.length := by
    rcases Nat.lt_or_ge k L.length with h' | h'
    · exact h'
    · have := hr.out; simp [List.getElem?_eq_none h'] at this
  have hBB := hB.trans (hB1.mono hB.size)
  refine ⟨k + 1, rfl, hk, ?_, (hBB.alloc hBB.size o).grown hg (by have := hBB.size; simp; omega) hv⟩
  rw [List.take_add_one, hr.out]
  simpa [iv] using ho
def ClsPost (L : List Nat) (w : World) (e : Ending) (w' : World) : Prop := ∃ v, e = .returned v ∧ w'.ownsRow w.heap.size 3 1 v L.length ((L.map refC).map iv) ∧ Below w.heap.size w w'
theorem ownI_below {W w1 : World} {base B : Nat} {e : TypeId} {size : Nat} {v : Value} {n : Nat} {xs : List Value} (h : W.ownsRow base e size v n xs) (hB : Below B W w1) (hb : B = W.heap.size) : w1.ownsRow base e size v n xs := by
  subst hb
  exact h.kept (row := none) ⟨hB.os, hB.tape, hB.output, hB.size, fun i hi _ => hB.block i hi⟩ (by cases v.ownBlock <;> simp)
set_option maxHeartbeats 1000000 in
set_option maxRecDepth 100000 in
theorem classes_any (L : List Nat) (vo : Option Addr) (c : Nat) (W : World) (hn : L.length ≤ 1000) (hL : ∀ r ∈ L, r ≤ 1114111) (hI : IntsAt W vo (L.map zv)) :
    Calls Tryz.prog 22 #[.slice vo L.length c] W (ClsPost L W) := by
  obtain ⟨i0, hi, hz0, hz1, hz2⟩ := info_parts Tryz.infoInt
  have HI := Lib.hid hI
  have HL := Lib.hid hL
  clear hI hL
  obtain ⟨n, hnn⟩ : ∃ n, n = L.length := ⟨_, rfl⟩
  rw [← hnn] at hn
  rw [← hnn]
  have HN := Lib.hid hnn
  clear hnn
  go_enter Tryz.func22, Tryz.ntmps22
  go_wp2
  go_loopw [3, 4] (ClsRel L W) (fun _ i _ => n - (intOf i).toNat)
  case atStart => exact ⟨0, rfl, Nat.zero_le _, World.ownsRow_nil _ _ _ _, Below.refl _ _⟩
  case round =>
    obtain ⟨k, rfl, hk, ho, hB⟩ := hrel
    obtain ⟨lo, lc, rfl⟩ := own_slice ho
    have hvb := Lib.hid ho.lt
    have HO := Lib.hid ho
    clear ho
    by_cases hkn : k < n
    · have hk' : k < L.length := by have := HN.out; omega
      obtain ⟨r, hr⟩ : ∃ r, L[k]? = some r := ⟨_, List.getElem?_eq_getElem hk'⟩
      have hr4 := HL.out r (List.mem_of_getElem? hr)
      obtain ⟨g, o, hvo, hcell⟩ := HI.out k (zv r) (by rw [List.getElem?_map, hr]; rfl)
      subst hvo
      have hd := (hB.cell (World.block_lt_of_cell? W ⟨g, o + k, none⟩ hcell)).trans hcell
      have hd' : wr.cell? ⟨g, o + k, none⟩ = some (.int .i64 (r : Int)) := hd
      have HR := Lib.hid hr
      clear hcell hd hr hk hk'
      go_wp2_with fail
      refine (class_any r wr hr4).mono ?_
      rintro e w1 ⟨rfl, hB1⟩
      have ho1 := Lib.hid (ownI_below HO.out hB1 rfl)
      obtain ⟨cc, hcc⟩ : ∃ cc, cc = refC r := ⟨_, rfl⟩
      rw [← hcc]
      have HCC := Lib.hid hcc
      clear hcc
      go_wp2_with (at_builtin; refine wpList_append_own _ rfl _ _ 29 rfl W.heap.size 3 i0 (.int .i64 0) 1 8 Tryz.underlying29 hi hz0 hz1 hz2 rfl (by decide) _ _ _ rfl (ho1.out.alloc _) ⟨w1.heap.size, 0, none⟩ 1 1 [.int .i64 cc] rfl rfl ?c1 (by simp [Value.oneCell']) (by unfold maxLen; omega) (by omega) (by have := hB.size; have := hB1.size; simp; omega) ?_; rotate_left; intro v' w2 ho' hg _)
      case c1 => exact int_cell _ _
      go_roundw
      case rel => exact cls_more HR rfl hB hB1 (fun g e => (hvb.out g e).1) (by rw [← HCC.out]; exact ho') hg
      case measure => exact sz_less rfl hkn
    · have hke := Lib.hid (show k = L.length by have := HN.out; omega)
      clear hk
      go_wp2
      go_ret
      refine ⟨_, rfl, ?_, hB⟩
      show wr.ownsRow W.heap.size 3 1 (.slice lo k lc) L.length ((L.map refC).map iv)
      have := HO.out
      rw [show L.take k = L by rw [hke.out, List.take_length]] at this
      rw [← hke.out]
      exact this
def AskPost (s : ByteArray) (W : World) (e : Ending) (w' : World) : Prop :=
  ∃ (vo : Option Addr) (c : Nat) (L : List Nat), e = .returned (.tuple #[.slice vo L.length c, fv (faultF s)]) ∧ L = (if faultF s = 0 then runesOf s.data.toList else []) ∧ IntsAt w' vo (L.map zv) ∧ (∀ g o, vo = some ⟨g, o, none⟩ → W.heap.size ≤ g) ∧ Below W.heap.size W w'
theorem ints_none (W : World) (vo : Option Addr) : IntsAt W vo [] := fun k x h => by simp at h
theorem ten_iff (L : List Nat) : (L.map zv).contains 10 = decide (10 ∈ L) := by
  rw [Bool.eq_iff_iff]
  simp only [List.contains_eq_mem, List.mem_map, decide_eq_true_eq, zv]
  constructor
  · rintro ⟨a, ha, e⟩
    have : a = 10 := by omega
    rwa [← this]
  · intro h
    exact ⟨10, h, rfl⟩
theorem iv_zv (L : List Nat) : (L.map zv).map (fun x => Value.int .i64 x) = L.map iv := by
  rw [List.map_map]; rfl
theorem cell_kept {W w1 : World} {cs : Array Value} {t : TypeId} (hB : Below (W.alloc (.cells cs t)).heap.size (W.alloc (.cells cs t)) w1) : w1.heap[W.heap.size]? = some (.cells cs t (0, 0)) :=
  (hB.block W.heap.size (by simp)).trans (heap_alloc_new W _)
theorem set3 {w : World} {g : Nat} {a b c x y z : Value} {t : TypeId} (h : w.heap[g]? = some (.cells #[a, b, c] t (0, 0))) :
    (((w.setCell ⟨g, 0, none⟩ x).setCell ⟨g, 1, none⟩ y).setCell ⟨g, 2, none⟩ z).heap[g]? = some (.cells #[x, y, z] t (0, 0)) := by
  simp [World.setCell, Array.getElem?_modify, h]
theorem below3 {W w : World} {g : Nat} {x y z : Value} (h : Below W.heap.size W w) (hg : W.heap.size ≤ g) : Below W.heap.size W (((w.setCell ⟨g, 0, none⟩ x).setCell ⟨g, 1, none⟩ y).setCell ⟨g, 2, none⟩ z) :=
  ((h.setCell (p := ⟨g, 0, none⟩) hg _).setCell (p := ⟨g, 1, none⟩) hg _).setCell (p := ⟨g, 2, none⟩) hg _
theorem results_tmp_cell {P : Program} {fn : Func} {u p : Tmp} {ty : TypeId} (h : fn.results = #[.tmp u, .cell p ty]) (tmps : Array Value) (w : World) (g : Nat) (t : TypeId) (cs : Array Value) (fr : Nat × Nat) (d : TypeDesc)
    (hp : tmps.getD p undef = .pointer (some ⟨g, 0, none⟩)) (hg : w.heap[g]? = some (.cells cs t fr))
    (hu : P.underlying ty = some d) (hd : (match d with | .struct _ | .array _ _ => true | _ => false) = true) (hi : (P.info? ty).map (·.size) = some cs.size) :
    (results fn tmps).run P w = .ok (.tuple #[tmps.getD u undef, .agg cs]) w := by
  have hp' : tmps[p]?.getD undef = .pointer (some ⟨g, 0, none⟩) := by simpa using hp
  simp [results, h, hp', asAddr, run_loadVar_row w g t ty cs fr d hg hu hd hi]
set_option maxHeartbeats 1000000 in
set_option maxRecDepth 100000 in
theorem asked_long (s : ByteArray) (W : World) (h6 : 600 < s.size) : Calls Tryz.prog 21 #[.string s] W (AskPost s W) := by
  have hF := Lib.hid (show faultF s = 1 by unfold faultF; rw [if_pos h6])
  go_enter Tryz.func21, Tryz.ntmps21
  go_wp2
  go_returns
  exact ⟨none, 0, [], by rw [hF.out]; rfl, by rw [hF.out]; rfl, ints_none _ _, (fun _ _ h => by cases h), (Below.refl W.heap.size W).alloc (Nat.le_refl _) _⟩
set_option maxHeartbeats 1000000 in
set_option maxRecDepth 100000 in
theorem asked_bad (s : ByteArray) (W : World) (h6 : s.size ≤ 600) (hv : validD s.data.toList = false) : Calls Tryz.prog 21 #[.string s] W (AskPost s W) := by
  have hF := Lib.hid (show faultF s = 2 by unfold faultF; rw [if_neg (by omega), if_pos (.inl hv)])
  have HV := Lib.hid hv
  clear hv
  go_enter Tryz.func21, Tryz.ntmps21
  go_wp2_with fail
  refine (runes_any s _ h6).mono ?_
  rintro e w1 h
  obtain ⟨p, rfl, hB⟩ : ∃ p : Nat, e = .returned (.tuple #[.slice none 0 0, .int .i64 p]) ∧ Below (W.alloc (.cells #[.int .i64 0, .int .i64 0, .int .i64 0] 34)).heap.size (W.alloc (.cells #[.int .i64 0, .int .i64 0, .int .i64 0] 34)) w1 := by
    rcases h with ⟨h1, _⟩ | ⟨_, p, h2, h3⟩
    · rw [HV.out] at h1; cases h1
    · exact ⟨p, h2, h3⟩
  clear h
  have hh := cell_kept hB
  have e0 := cell_of_row _ _ 0 _ _ _ hh
  have e1 := cell_of_row _ _ 1 _ _ _ hh
  have e2 := cell_of_row _ _ 2 _ _ _ hh
  simp only [List.getElem?_toArray, List.getElem?_cons_succ, List.getElem?_cons_zero] at e0 e1 e2
  have f0 := frozen_of_heap hh 0
  have f1 := frozen_of_heap hh 1
  have f2 := frozen_of_heap hh 2
  have HH := Lib.hid hh
  clear hh
  go_wp2_with fail
  refine (among_any 10 [] none 0 _ (by decide) (ints_none _ _)).mono ?_
  rintro e w2 ⟨rfl, rfl⟩
  go_wp2
  (try simp only [Exit.inBlock, Exit.then])
  refine bodyPost_ret (results_tmp_cell rfl _ _ W.heap.size _ _ _ _ rfl (set3 HH.out) Tryz.underlying34 rfl (by kernel_rfl)) rfl ?_
  exact ⟨none, 0, [], by rw [hF.out]; rfl, by rw [hF.out]; rfl, ints_none _ _, (fun _ _ h => by cases h), below3 (((Below.refl W.heap.size W).alloc (Nat.le_refl _) _).trans (hB.mono (by simp))) (Nat.le_refl _)⟩
set_option maxHeartbeats 1000000 in
set_option maxRecDepth 100000 in
theorem asked_good (s : ByteArray) (W : World) (h6 : s.size ≤ 600) (hv : validD s.data.toList = true) : Calls Tryz.prog 21 #[.string s] W (AskPost s W) := by
  have HV := Lib.hid hv
  have hln := runes_len _ s.data.toList (Nat.le_refl _)
  have hls : s.data.toList.length = s.size := by simp
  obtain ⟨n, hn⟩ : ∃ n, n = (runesOf s.data.toList).length := ⟨_, rfl⟩
  have hn6 : n ≤ 600 := by omega
  have HN := Lib.hid hn
  have HF1 := Lib.hid (show 10 ∈ runesOf s.data.toList → faultF s = 2 by intro h; unfold faultF; rw [if_neg (by omega), if_pos (.inr h)])
  have HF2 := Lib.hid (show ¬ 10 ∈ runesOf s.data.toList → 300 < n → faultF s = 1 by intro h hc; unfold faultF; rw [if_neg (by omega), if_neg (fun k => k.elim (fun k => by rw [hv] at k; cases k) h), if_pos (by omega)])
  have HF3 := Lib.hid (show ¬ 10 ∈ runesOf s.data.toList → ¬ 300 < n → faultF s = 0 by intro h hc; unfold faultF; rw [if_neg (by omega), if_neg (fun k => k.elim (fun k => by rw [hv] at k; cases k) h), if_neg (by omega)])
  clear hv hln hls hn
  go_enter Tryz.func21, Tryz.ntmps21
  go_wp2_with fail
  refine (runes_any s _ h6).mono ?_
  rintro e w1 h
  obtain ⟨v, rfl, ho, hB⟩ : ∃ v, e = .returned (.tuple #[v, .int .i64 (-1)]) ∧ w1.ownsRow (W.alloc (.cells #[.int .i64 0, .int .i64 0, .int .i64 0] 34)).heap.size 3 1 v (runesOf s.data.toList).length ((runesOf s.data.toList).map iv) ∧ Below (W.alloc (.cells #[.int .i64 0, .int .i64 0, .int .i64 0] 34)).heap.size (W.alloc (.cells #[.int .i64 0, .int .i64 0, .int .i64 0] 34)) w1 := by
    rcases h with ⟨_, v, h2, h3, h4⟩ | ⟨h1, _⟩
    · exact ⟨v, h2, h3, h4⟩
    · rw [HV.out] at h1; cases h1
  clear h
  obtain ⟨vo, vc, rfl⟩ := own_slice ho
  rw [← iv_zv] at ho
  have HI := Lib.hid (ints_own ho (by simp))
  have HLt := Lib.hid ho.lt
  clear ho
  rw [← HN.out]
  have hh := cell_kept hB
  have e0 := cell_of_row _ _ 0 _ _ _ hh
  have e1 := cell_of_row _ _ 1 _ _ _ hh
  have e2 := cell_of_row _ _ 2 _ _ _ hh
  simp only [List.getElem?_toArray, List.getElem?_cons_succ, List.getElem?_cons_zero] at e0 e1 e2
  have f0 := frozen_of_heap hh 0
  have f1 := frozen_of_heap hh 1
  have f2 := frozen_of_heap hh 2
  have HH := Lib.hid hh
  clear hh
  have HB := Lib.hid (((Below.refl W.heap.size W).alloc (Nat.le_refl _) _).trans (hB.mono (by simp)))
  clear hB
  go_wp2_with fail
  have ham := among_any 10 ((runesOf s.data.toList).map zv) vo vc w1 (by rw [List.length_map, ← HN.out]; omega) HI.out
  rw [List.length_map, ← HN.out, ten_iff] at ham
  refine ham.mono ?_
  rintro e w2 ⟨rfl, rfl⟩
  clear ham
  by_cases hten : 10 ∈ runesOf s.data.toList
  · have hF := Lib.hid (HF1.out hten)
    rw [decide_eq_true hten]
    clear hten
    go_wp2
    (try simp only [Exit.inBlock, Exit.then])
    refine bodyPost_ret (results_tmp_cell rfl _ _ W.heap.size _ _ _ _ rfl (set3 HH.out) Tryz.underlying34 rfl (by kernel_rfl)) rfl ?_
    exact ⟨none, 0, [], by rw [hF.out]; rfl, by rw [hF.out]; rfl, ints_none _ _, (fun _ _ h => by cases h), below3 HB.out (Nat.le_refl _)⟩
  · rw [decide_eq_false hten]
    by_cases h3 : 300 < n
    · have hF := Lib.hid (HF2.out hten h3)
      clear hten
      go_wp2
      (try simp only [Exit.inBlock, Exit.then])
      refine bodyPost_ret (results_tmp_cell rfl _ _ W.heap.size _ _ _ _ rfl (set3 HH.out) Tryz.underlying34 rfl (by kernel_rfl)) rfl ?_
      exact ⟨none, 0, [], by rw [hF.out]; rfl, by rw [hF.out]; rfl, ints_none _ _, (fun _ _ h => by cases h), below3 HB.out (Nat.le_refl _)⟩
    · have hF := Lib.hid (HF3.out hten h3)
      clear hten
      go_wp2
      (try simp only [Exit.inBlock, Exit.then])
      refine bodyPost_ret (results_tmp_cell rfl _ _ W.heap.size _ _ _ _ rfl (set3 HH.out) Tryz.underlying34 rfl (by kernel_rfl)) rfl ?_
      refine ⟨vo, vc, runesOf s.data.toList, by rw [hF.out, ← HN.out]; rfl, by rw [hF.out]; rfl, ?_, (fun g o h => by have := (HLt.out g (by rw [h]; rfl)).1; simp at this; omega), below3 HB.out (Nat.le_refl _)⟩
      intro k x hx
      obtain ⟨g, o, hg, hc⟩ := HI.out k x hx
      refine ⟨g, o, hg, ?_⟩
      have hlt := (HLt.out g (by rw [hg]; rfl)).1
      simp only [World.size_alloc] at hlt
      rw [World.cell?_setCell_other _ _ _ _ (fun e => by have := congrArg Addr.block e; simp at this; omega), World.cell?_setCell_other _ _ _ _ (fun e => by have := congrArg Addr.block e; simp at this; omega), World.cell?_setCell_other _ _ _ _ (fun e => by have := congrArg Addr.block e; simp at this; omega)]
      exact hc
theorem asked_any (s : ByteArray) (W : World) : Calls Tryz.prog 21 #[.string s] W (AskPost s W) := by
  by_cases h6 : 600 < s.size
  · exact asked_long s W h6
  · cases hv : validD s.data.toList with
    | true => exact asked_good s W (by omega) hv
    | false => exact asked_bad s W (by omega) hv
end Go.Proofs.YtcnpkijjnbhagaaGreatDoor
